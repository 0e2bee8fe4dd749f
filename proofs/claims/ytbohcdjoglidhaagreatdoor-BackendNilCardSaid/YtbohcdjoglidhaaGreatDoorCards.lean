/-
  DERIVED. GIVEN WITH THE SEED: THE CARDS: each row of YtbohcdjoglidhaaGreatDoorRows.lean that lists a variable, with what it lists TIED to the program's text (the seventh form; the later family's looks); each row that meets fmt, with fmt's text TOLD by the authors' own Lean function (tested against real Go, not proved from fmt's source: count such statements apart). THE CARD IS WHAT COUNTS. Prove the row's statement (the work); the ties are given (YtbohcdjoglidhaaGreatDoorTie.lean); close each card by the builder's one call (the guide's Derived/Test/ToyasCard.lean, 'card_holds'). Laid BY PROGRAM, IN A SANDBOX (cutbox-door.mjs). By AI agents, Wed Nov 11 2026. No macro, syntax, notation, axiom, sorry.
-/
import Derived.Test.YtbohcdjoglidhaaGreatDoorRows
import GoSem.ClaimSeven
namespace Go.Proofs.YtbohcdjoglidhaaGreatDoor
namespace Rows

/-- THE TIED CARD OF 'theodolitelaw14.BackendNil'. -/
def backendNilCard : Claim7 := { stood := { row := backendNilRow, standIns := [], harness := (true, "c943c1ab0bbf9a96a6095c3333c54165ed2cb2195c68a7660bc9d56dd3ba34dc"), looks := true }, kinds := [], alts := [], laidByText := true, laidKinds := [.data], laidTests := true, laidLooks := .later }
def BackendNilCardSaid : Prop := Claim7.holds Tryz.pinned (.plain (OpenSpec.ofChange backendNilSpec)) backendNilCard

/-- THE SECOND FORM's CARD OF 'theodolitelaw14.BackendNil'. -/
def backendNilUptoCard : Claim7 := { stood := { row := backendNilUptoRow, standIns := [], harness := (true, "c943c1ab0bbf9a96a6095c3333c54165ed2cb2195c68a7660bc9d56dd3ba34dc"), looks := true }, kinds := [], alts := [], laidByText := true, laidKinds := [.data], laidTests := true, laidLooks := .later }
def BackendNilUptoCardSaid : Prop := Claim7.holds Tryz.pinned (.plain (OpenSpec.upto backendNilSpec)) backendNilUptoCard
end Rows
end Go.Proofs.YtbohcdjoglidhaaGreatDoor
