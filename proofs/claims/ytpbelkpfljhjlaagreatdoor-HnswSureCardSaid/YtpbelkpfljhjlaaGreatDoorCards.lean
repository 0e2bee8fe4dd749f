/-
  DERIVED. GIVEN WITH THE SEED: THE CARDS: each row of YtpbelkpfljhjlaaGreatDoorRows.lean that lists a variable, with what it lists TIED to the program's text (the seventh form; the later family's looks); each row that meets fmt, with fmt's text TOLD by the authors' own Lean function (tested against real Go, not proved from fmt's source: count such statements apart). THE CARD IS WHAT COUNTS. Prove the row's statement (the work); the ties are given (YtpbelkpfljhjlaaGreatDoorTie.lean); close each card by the builder's one call (the guide's Derived/Test/ToyasCard.lean, 'card_holds'). Laid BY PROGRAM, IN A SANDBOX (cutbox-door.mjs). By AI agents, Wed Nov 11 2026. No macro, syntax, notation, axiom, sorry.
-/
import Derived.Test.YtpbelkpfljhjlaaGreatDoorRows
import GoSem.ClaimSeven
namespace Go.Proofs.YtpbelkpfljhjlaaGreatDoor
namespace Rows

/-- THE TIED CARD OF 'theodolitelaw11.HnswBuild'. -/
def hnswBuildCard : Claim7 := { stood := { row := hnswBuildRow, standIns := [], harness := (true, "4f21c78fc20d6d678abccda21f05fd6e8706ab112e21e60744cad5678659bab5"), looks := true }, kinds := [], alts := [], laidByText := true, laidKinds := [.data], laidTests := true, laidLooks := .later }
def HnswBuildCardSaid : Prop := Claim7.holds Tryz.pinned (.plain (OpenSpec.ofChange hnswBuildSpec)) hnswBuildCard

/-- THE TIED CARD OF 'theodolitelaw11.HnswRuns'. -/
def hnswRunsCard : Claim7 := { stood := { row := hnswRunsRow, standIns := [], harness := (true, "4f21c78fc20d6d678abccda21f05fd6e8706ab112e21e60744cad5678659bab5"), looks := true }, kinds := [], alts := [], laidByText := true, laidKinds := [.data], laidTests := true, laidLooks := .later }
def HnswRunsCardSaid : Prop := Claim7.holds Tryz.pinned (.plain (OpenSpec.ofChange hnswRunsSpec)) hnswRunsCard

/-- THE TIED CARD OF 'theodolitelaw11.HnswBuilt'. -/
def hnswBuiltCard : Claim7 := { stood := { row := hnswBuiltRow, standIns := [], harness := (true, "4f21c78fc20d6d678abccda21f05fd6e8706ab112e21e60744cad5678659bab5"), looks := true }, kinds := [], alts := [], laidByText := true, laidKinds := [.data], laidTests := true, laidLooks := .later }
def HnswBuiltCardSaid : Prop := Claim7.holds Tryz.pinned (.plain (OpenSpec.ofChange hnswBuiltSpec)) hnswBuiltCard

/-- THE TIED CARD OF 'theodolitelaw11.HnswNil'. -/
def hnswNilCard : Claim7 := { stood := { row := hnswNilRow, standIns := [], harness := (true, "4f21c78fc20d6d678abccda21f05fd6e8706ab112e21e60744cad5678659bab5"), looks := true }, kinds := [], alts := [], laidByText := true, laidKinds := [.data], laidTests := true, laidLooks := .later }
def HnswNilCardSaid : Prop := Claim7.holds Tryz.pinned (.plain (OpenSpec.ofChange hnswNilSpec)) hnswNilCard

/-- THE TIED CARD OF 'theodolitelaw11.HnswEmpty'. -/
def hnswEmptyCard : Claim7 := { stood := { row := hnswEmptyRow, standIns := [], harness := (true, "4f21c78fc20d6d678abccda21f05fd6e8706ab112e21e60744cad5678659bab5"), looks := true }, kinds := [], alts := [], laidByText := true, laidKinds := [.data], laidTests := true, laidLooks := .later }
def HnswEmptyCardSaid : Prop := Claim7.holds Tryz.pinned (.plain (OpenSpec.ofChange hnswEmptySpec)) hnswEmptyCard

/-- THE TIED CARD OF 'theodolitelaw11.HnswKnown'. -/
def hnswKnownCard : Claim7 := { stood := { row := hnswKnownRow, standIns := [], harness := (true, "4f21c78fc20d6d678abccda21f05fd6e8706ab112e21e60744cad5678659bab5"), looks := true }, kinds := [], alts := [], laidByText := true, laidKinds := [.data], laidTests := true, laidLooks := .later }
def HnswKnownCardSaid : Prop := Claim7.holds Tryz.pinned (.plain (OpenSpec.ofChange hnswKnownSpec)) hnswKnownCard

/-- THE TIED CARD OF 'theodolitelaw11.HnswWhole'. -/
def hnswWholeCard : Claim7 := { stood := { row := hnswWholeRow, standIns := [], harness := (true, "4f21c78fc20d6d678abccda21f05fd6e8706ab112e21e60744cad5678659bab5"), looks := true }, kinds := [], alts := [], laidByText := true, laidKinds := [.data], laidTests := true, laidLooks := .later }
def HnswWholeCardSaid : Prop := Claim7.holds Tryz.pinned (.plain (OpenSpec.ofChange hnswWholeSpec)) hnswWholeCard

/-- THE TIED CARD OF 'theodolitelaw11.HnswSure'. -/
def hnswSureCard : Claim7 := { stood := { row := hnswSureRow, standIns := [], harness := (true, "4f21c78fc20d6d678abccda21f05fd6e8706ab112e21e60744cad5678659bab5"), looks := true }, kinds := [], alts := [], laidByText := true, laidKinds := [.data], laidTests := true, laidLooks := .later }
def HnswSureCardSaid : Prop := Claim7.holds Tryz.pinned (.plain (OpenSpec.ofChange hnswSureSpec)) hnswSureCard

/-- THE SECOND FORM's CARD OF 'theodolitelaw11.HnswBuild'. -/
def hnswBuildUptoCard : Claim7 := { stood := { row := hnswBuildUptoRow, standIns := [], harness := (true, "4f21c78fc20d6d678abccda21f05fd6e8706ab112e21e60744cad5678659bab5"), looks := true }, kinds := [], alts := [], laidByText := true, laidKinds := [.data], laidTests := true, laidLooks := .later }
def HnswBuildUptoCardSaid : Prop := Claim7.holds Tryz.pinned (.plain (OpenSpec.upto hnswBuildSpec)) hnswBuildUptoCard

/-- THE SECOND FORM's CARD OF 'theodolitelaw11.HnswRuns'. -/
def hnswRunsUptoCard : Claim7 := { stood := { row := hnswRunsUptoRow, standIns := [], harness := (true, "4f21c78fc20d6d678abccda21f05fd6e8706ab112e21e60744cad5678659bab5"), looks := true }, kinds := [], alts := [], laidByText := true, laidKinds := [.data], laidTests := true, laidLooks := .later }
def HnswRunsUptoCardSaid : Prop := Claim7.holds Tryz.pinned (.plain (OpenSpec.upto hnswRunsSpec)) hnswRunsUptoCard

/-- THE SECOND FORM's CARD OF 'theodolitelaw11.HnswBuilt'. -/
def hnswBuiltUptoCard : Claim7 := { stood := { row := hnswBuiltUptoRow, standIns := [], harness := (true, "4f21c78fc20d6d678abccda21f05fd6e8706ab112e21e60744cad5678659bab5"), looks := true }, kinds := [], alts := [], laidByText := true, laidKinds := [.data], laidTests := true, laidLooks := .later }
def HnswBuiltUptoCardSaid : Prop := Claim7.holds Tryz.pinned (.plain (OpenSpec.upto hnswBuiltSpec)) hnswBuiltUptoCard

/-- THE SECOND FORM's CARD OF 'theodolitelaw11.HnswNil'. -/
def hnswNilUptoCard : Claim7 := { stood := { row := hnswNilUptoRow, standIns := [], harness := (true, "4f21c78fc20d6d678abccda21f05fd6e8706ab112e21e60744cad5678659bab5"), looks := true }, kinds := [], alts := [], laidByText := true, laidKinds := [.data], laidTests := true, laidLooks := .later }
def HnswNilUptoCardSaid : Prop := Claim7.holds Tryz.pinned (.plain (OpenSpec.upto hnswNilSpec)) hnswNilUptoCard

/-- THE SECOND FORM's CARD OF 'theodolitelaw11.HnswEmpty'. -/
def hnswEmptyUptoCard : Claim7 := { stood := { row := hnswEmptyUptoRow, standIns := [], harness := (true, "4f21c78fc20d6d678abccda21f05fd6e8706ab112e21e60744cad5678659bab5"), looks := true }, kinds := [], alts := [], laidByText := true, laidKinds := [.data], laidTests := true, laidLooks := .later }
def HnswEmptyUptoCardSaid : Prop := Claim7.holds Tryz.pinned (.plain (OpenSpec.upto hnswEmptySpec)) hnswEmptyUptoCard

/-- THE SECOND FORM's CARD OF 'theodolitelaw11.HnswKnown'. -/
def hnswKnownUptoCard : Claim7 := { stood := { row := hnswKnownUptoRow, standIns := [], harness := (true, "4f21c78fc20d6d678abccda21f05fd6e8706ab112e21e60744cad5678659bab5"), looks := true }, kinds := [], alts := [], laidByText := true, laidKinds := [.data], laidTests := true, laidLooks := .later }
def HnswKnownUptoCardSaid : Prop := Claim7.holds Tryz.pinned (.plain (OpenSpec.upto hnswKnownSpec)) hnswKnownUptoCard

/-- THE SECOND FORM's CARD OF 'theodolitelaw11.HnswWhole'. -/
def hnswWholeUptoCard : Claim7 := { stood := { row := hnswWholeUptoRow, standIns := [], harness := (true, "4f21c78fc20d6d678abccda21f05fd6e8706ab112e21e60744cad5678659bab5"), looks := true }, kinds := [], alts := [], laidByText := true, laidKinds := [.data], laidTests := true, laidLooks := .later }
def HnswWholeUptoCardSaid : Prop := Claim7.holds Tryz.pinned (.plain (OpenSpec.upto hnswWholeSpec)) hnswWholeUptoCard

/-- THE SECOND FORM's CARD OF 'theodolitelaw11.HnswSure'. -/
def hnswSureUptoCard : Claim7 := { stood := { row := hnswSureUptoRow, standIns := [], harness := (true, "4f21c78fc20d6d678abccda21f05fd6e8706ab112e21e60744cad5678659bab5"), looks := true }, kinds := [], alts := [], laidByText := true, laidKinds := [.data], laidTests := true, laidLooks := .later }
def HnswSureUptoCardSaid : Prop := Claim7.holds Tryz.pinned (.plain (OpenSpec.upto hnswSureSpec)) hnswSureUptoCard
end Rows
end Go.Proofs.YtpbelkpfljhjlaaGreatDoor
