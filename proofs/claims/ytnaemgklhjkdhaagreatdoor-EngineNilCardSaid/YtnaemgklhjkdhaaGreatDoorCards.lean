/-
  DERIVED. GIVEN WITH THE SEED: THE CARDS: each row of YtnaemgklhjkdhaaGreatDoorRows.lean that lists a variable, with what it lists TIED to the program's text (the seventh form; the later family's looks); each row that meets fmt, with fmt's text TOLD by the authors' own Lean function (tested against real Go, not proved from fmt's source: count such statements apart). THE CARD IS WHAT COUNTS. Prove the row's statement (the work); the ties are given (YtnaemgklhjkdhaaGreatDoorTie.lean); close each card by the builder's one call (the guide's Derived/Test/ToyasCard.lean, 'card_holds'). Laid BY PROGRAM, IN A SANDBOX (cutbox-door.mjs). By AI agents, Wed Nov 11 2026. No macro, syntax, notation, axiom, sorry.
-/
import Derived.Test.YtnaemgklhjkdhaaGreatDoorRows
import GoSem.ClaimSeven
namespace Go.Proofs.YtnaemgklhjkdhaaGreatDoor
namespace Rows

/-- THE TIED CARD OF 'theodolitetop.TopAnew'. -/
def topAnewCard : Claim7 := { stood := { row := topAnewRow, standIns := [], harness := (true, "642c0ad97d8dbce5d62d47a50a8634905b2d1a2654b0005053ee5b7d4f32f821"), looks := true }, kinds := [], alts := [], laidByText := true, laidKinds := [.data, .data, .data, .sentinel, .sentinel], laidTests := true, laidLooks := .later }
def TopAnewCardSaid : Prop := Claim7.holds Tryz.pinned (.plain (OpenSpec.ofChange topAnewSpec)) topAnewCard

/-- THE TIED CARD OF 'theodolitelaw21.EngineExact'. -/
def engineExactCard : Claim7 := { stood := { row := engineExactRow, standIns := [], harness := (true, "642c0ad97d8dbce5d62d47a50a8634905b2d1a2654b0005053ee5b7d4f32f821"), looks := true }, kinds := [], alts := [], laidByText := true, laidKinds := [.data, .data, .data, .sentinel, .sentinel], laidTests := true, laidLooks := .later }
def EngineExactCardSaid : Prop := Claim7.holds Tryz.pinned (.plain (OpenSpec.ofChange engineExactSpec)) engineExactCard

/-- THE TIED CARD OF 'theodolitelaw21.EngineAnew'. -/
def engineAnewCard : Claim7 := { stood := { row := engineAnewRow, standIns := [], harness := (true, "642c0ad97d8dbce5d62d47a50a8634905b2d1a2654b0005053ee5b7d4f32f821"), looks := true }, kinds := [], alts := [], laidByText := true, laidKinds := [.data, .data, .data, .sentinel, .sentinel], laidTests := true, laidLooks := .later }
def EngineAnewCardSaid : Prop := Claim7.holds Tryz.pinned (.plain (OpenSpec.ofChange engineAnewSpec)) engineAnewCard

/-- THE TIED CARD OF 'theodolitelaw21.EngineHonest'. -/
def engineHonestCard : Claim7 := { stood := { row := engineHonestRow, standIns := [], harness := (true, "642c0ad97d8dbce5d62d47a50a8634905b2d1a2654b0005053ee5b7d4f32f821"), looks := true }, kinds := [], alts := [], laidByText := true, laidKinds := [.data, .data, .data, .sentinel, .sentinel], laidTests := true, laidLooks := .later }
def EngineHonestCardSaid : Prop := Claim7.holds Tryz.pinned (.plain (OpenSpec.ofChange engineHonestSpec)) engineHonestCard

/-- THE TIED CARD OF 'theodolitelaw21.EngineNil'. -/
def engineNilCard : Claim7 := { stood := { row := engineNilRow, standIns := [], harness := (true, "642c0ad97d8dbce5d62d47a50a8634905b2d1a2654b0005053ee5b7d4f32f821"), looks := true }, kinds := [], alts := [], laidByText := true, laidKinds := [.data, .data, .data, .sentinel, .sentinel], laidTests := true, laidLooks := .later }
def EngineNilCardSaid : Prop := Claim7.holds Tryz.pinned (.plain (OpenSpec.ofChange engineNilSpec)) engineNilCard

/-- THE SECOND FORM's CARD OF 'theodolitetop.TopAnew'. -/
def topAnewUptoCard : Claim7 := { stood := { row := topAnewUptoRow, standIns := [], harness := (true, "642c0ad97d8dbce5d62d47a50a8634905b2d1a2654b0005053ee5b7d4f32f821"), looks := true }, kinds := [], alts := [], laidByText := true, laidKinds := [.data, .data, .data, .sentinel, .sentinel], laidTests := true, laidLooks := .later }
def TopAnewUptoCardSaid : Prop := Claim7.holds Tryz.pinned (.plain (OpenSpec.upto topAnewSpec)) topAnewUptoCard

/-- THE SECOND FORM's CARD OF 'theodolitelaw21.EngineExact'. -/
def engineExactUptoCard : Claim7 := { stood := { row := engineExactUptoRow, standIns := [], harness := (true, "642c0ad97d8dbce5d62d47a50a8634905b2d1a2654b0005053ee5b7d4f32f821"), looks := true }, kinds := [], alts := [], laidByText := true, laidKinds := [.data, .data, .data, .sentinel, .sentinel], laidTests := true, laidLooks := .later }
def EngineExactUptoCardSaid : Prop := Claim7.holds Tryz.pinned (.plain (OpenSpec.upto engineExactSpec)) engineExactUptoCard

/-- THE SECOND FORM's CARD OF 'theodolitelaw21.EngineAnew'. -/
def engineAnewUptoCard : Claim7 := { stood := { row := engineAnewUptoRow, standIns := [], harness := (true, "642c0ad97d8dbce5d62d47a50a8634905b2d1a2654b0005053ee5b7d4f32f821"), looks := true }, kinds := [], alts := [], laidByText := true, laidKinds := [.data, .data, .data, .sentinel, .sentinel], laidTests := true, laidLooks := .later }
def EngineAnewUptoCardSaid : Prop := Claim7.holds Tryz.pinned (.plain (OpenSpec.upto engineAnewSpec)) engineAnewUptoCard

/-- THE SECOND FORM's CARD OF 'theodolitelaw21.EngineHonest'. -/
def engineHonestUptoCard : Claim7 := { stood := { row := engineHonestUptoRow, standIns := [], harness := (true, "642c0ad97d8dbce5d62d47a50a8634905b2d1a2654b0005053ee5b7d4f32f821"), looks := true }, kinds := [], alts := [], laidByText := true, laidKinds := [.data, .data, .data, .sentinel, .sentinel], laidTests := true, laidLooks := .later }
def EngineHonestUptoCardSaid : Prop := Claim7.holds Tryz.pinned (.plain (OpenSpec.upto engineHonestSpec)) engineHonestUptoCard

/-- THE SECOND FORM's CARD OF 'theodolitelaw21.EngineNil'. -/
def engineNilUptoCard : Claim7 := { stood := { row := engineNilUptoRow, standIns := [], harness := (true, "642c0ad97d8dbce5d62d47a50a8634905b2d1a2654b0005053ee5b7d4f32f821"), looks := true }, kinds := [], alts := [], laidByText := true, laidKinds := [.data, .data, .data, .sentinel, .sentinel], laidTests := true, laidLooks := .later }
def EngineNilUptoCardSaid : Prop := Claim7.holds Tryz.pinned (.plain (OpenSpec.upto engineNilSpec)) engineNilUptoCard
end Rows
end Go.Proofs.YtnaemgklhjkdhaaGreatDoor
