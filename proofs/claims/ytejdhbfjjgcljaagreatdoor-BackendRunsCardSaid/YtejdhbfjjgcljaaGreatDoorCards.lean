/-
  DERIVED. GIVEN WITH THE SEED: THE CARDS: each row of YtejdhbfjjgcljaaGreatDoorRows.lean that lists a variable, with what it lists TIED to the program's text (the seventh form; the later family's looks); each row that meets fmt, with fmt's text TOLD by the authors' own Lean function (tested against real Go, not proved from fmt's source: count such statements apart). THE CARD IS WHAT COUNTS. Prove the row's statement (the work); the ties are given (YtejdhbfjjgcljaaGreatDoorTie.lean); close each card by the builder's one call (the guide's Derived/Test/ToyasCard.lean, 'card_holds'). Laid BY PROGRAM, IN A SANDBOX (cutbox-door.mjs). By AI agents, Wed Nov 11 2026. No macro, syntax, notation, axiom, sorry.
-/
import Derived.Test.YtejdhbfjjgcljaaGreatDoorRows
import GoSem.ClaimSeven
namespace Go.Proofs.YtejdhbfjjgcljaaGreatDoor
namespace Rows

/-- THE TIED CARD OF 'theodolitelaw14.BackendAlike'. -/
def backendAlikeCard : Claim7 := { stood := { row := backendAlikeRow, standIns := [], harness := (true, "311d9114770813867c07a5e675490240823f57599795187e37fca2fd07bfd744"), looks := true }, kinds := [], alts := [], laidByText := true, laidKinds := [.data], laidTests := true, laidLooks := .later }
def BackendAlikeCardSaid : Prop := Claim7.holds Tryz.pinned (.plain (OpenSpec.ofChange backendAlikeSpec)) backendAlikeCard

/-- THE TIED CARD OF 'theodolitelaw14.BackendRuns'. -/
def backendRunsCard : Claim7 := { stood := { row := backendRunsRow, standIns := [], harness := (true, "311d9114770813867c07a5e675490240823f57599795187e37fca2fd07bfd744"), looks := true }, kinds := [], alts := [], laidByText := true, laidKinds := [.data], laidTests := true, laidLooks := .later }
def BackendRunsCardSaid : Prop := Claim7.holds Tryz.pinned (.plain (OpenSpec.ofChange backendRunsSpec)) backendRunsCard

/-- THE TIED CARD OF 'theodolitelaw14.BackendWhole'. -/
def backendWholeCard : Claim7 := { stood := { row := backendWholeRow, standIns := [], harness := (true, "311d9114770813867c07a5e675490240823f57599795187e37fca2fd07bfd744"), looks := true }, kinds := [], alts := [], laidByText := true, laidKinds := [.data], laidTests := true, laidLooks := .later }
def BackendWholeCardSaid : Prop := Claim7.holds Tryz.pinned (.plain (OpenSpec.ofChange backendWholeSpec)) backendWholeCard

/-- THE TIED CARD OF 'theodolitelaw14.BackendBuilt'. -/
def backendBuiltCard : Claim7 := { stood := { row := backendBuiltRow, standIns := [], harness := (true, "311d9114770813867c07a5e675490240823f57599795187e37fca2fd07bfd744"), looks := true }, kinds := [], alts := [], laidByText := true, laidKinds := [.data], laidTests := true, laidLooks := .later }
def BackendBuiltCardSaid : Prop := Claim7.holds Tryz.pinned (.plain (OpenSpec.ofChange backendBuiltSpec)) backendBuiltCard

/-- THE TIED CARD OF 'theodolitelaw14.BackendEmpty'. -/
def backendEmptyCard : Claim7 := { stood := { row := backendEmptyRow, standIns := [], harness := (true, "311d9114770813867c07a5e675490240823f57599795187e37fca2fd07bfd744"), looks := true }, kinds := [], alts := [], laidByText := true, laidKinds := [.data], laidTests := true, laidLooks := .later }
def BackendEmptyCardSaid : Prop := Claim7.holds Tryz.pinned (.plain (OpenSpec.ofChange backendEmptySpec)) backendEmptyCard

/-- THE TIED CARD OF 'theodolitelaw14.BackendSure'. -/
def backendSureCard : Claim7 := { stood := { row := backendSureRow, standIns := [], harness := (true, "311d9114770813867c07a5e675490240823f57599795187e37fca2fd07bfd744"), looks := true }, kinds := [], alts := [], laidByText := true, laidKinds := [.data], laidTests := true, laidLooks := .later }
def BackendSureCardSaid : Prop := Claim7.holds Tryz.pinned (.plain (OpenSpec.ofChange backendSureSpec)) backendSureCard

/-- THE TIED CARD OF 'theodolitelaw14.BackendBuild'. -/
def backendBuildCard : Claim7 := { stood := { row := backendBuildRow, standIns := [], harness := (true, "311d9114770813867c07a5e675490240823f57599795187e37fca2fd07bfd744"), looks := true }, kinds := [], alts := [], laidByText := true, laidKinds := [.data], laidTests := true, laidLooks := .later }
def BackendBuildCardSaid : Prop := Claim7.holds Tryz.pinned (.plain (OpenSpec.ofChange backendBuildSpec)) backendBuildCard

/-- THE TIED CARD OF 'theodolitelaw14.BackendCerts'. -/
def backendCertsCard : Claim7 := { stood := { row := backendCertsRow, standIns := [], harness := (true, "311d9114770813867c07a5e675490240823f57599795187e37fca2fd07bfd744"), looks := true }, kinds := [], alts := [], laidByText := true, laidKinds := [.data], laidTests := true, laidLooks := .later }
def BackendCertsCardSaid : Prop := Claim7.holds Tryz.pinned (.plain (OpenSpec.ofChange backendCertsSpec)) backendCertsCard

/-- THE SECOND FORM's CARD OF 'theodolitelaw14.BackendAlike'. -/
def backendAlikeUptoCard : Claim7 := { stood := { row := backendAlikeUptoRow, standIns := [], harness := (true, "311d9114770813867c07a5e675490240823f57599795187e37fca2fd07bfd744"), looks := true }, kinds := [], alts := [], laidByText := true, laidKinds := [.data], laidTests := true, laidLooks := .later }
def BackendAlikeUptoCardSaid : Prop := Claim7.holds Tryz.pinned (.plain (OpenSpec.upto backendAlikeSpec)) backendAlikeUptoCard

/-- THE SECOND FORM's CARD OF 'theodolitelaw14.BackendRuns'. -/
def backendRunsUptoCard : Claim7 := { stood := { row := backendRunsUptoRow, standIns := [], harness := (true, "311d9114770813867c07a5e675490240823f57599795187e37fca2fd07bfd744"), looks := true }, kinds := [], alts := [], laidByText := true, laidKinds := [.data], laidTests := true, laidLooks := .later }
def BackendRunsUptoCardSaid : Prop := Claim7.holds Tryz.pinned (.plain (OpenSpec.upto backendRunsSpec)) backendRunsUptoCard

/-- THE SECOND FORM's CARD OF 'theodolitelaw14.BackendWhole'. -/
def backendWholeUptoCard : Claim7 := { stood := { row := backendWholeUptoRow, standIns := [], harness := (true, "311d9114770813867c07a5e675490240823f57599795187e37fca2fd07bfd744"), looks := true }, kinds := [], alts := [], laidByText := true, laidKinds := [.data], laidTests := true, laidLooks := .later }
def BackendWholeUptoCardSaid : Prop := Claim7.holds Tryz.pinned (.plain (OpenSpec.upto backendWholeSpec)) backendWholeUptoCard

/-- THE SECOND FORM's CARD OF 'theodolitelaw14.BackendBuilt'. -/
def backendBuiltUptoCard : Claim7 := { stood := { row := backendBuiltUptoRow, standIns := [], harness := (true, "311d9114770813867c07a5e675490240823f57599795187e37fca2fd07bfd744"), looks := true }, kinds := [], alts := [], laidByText := true, laidKinds := [.data], laidTests := true, laidLooks := .later }
def BackendBuiltUptoCardSaid : Prop := Claim7.holds Tryz.pinned (.plain (OpenSpec.upto backendBuiltSpec)) backendBuiltUptoCard

/-- THE SECOND FORM's CARD OF 'theodolitelaw14.BackendEmpty'. -/
def backendEmptyUptoCard : Claim7 := { stood := { row := backendEmptyUptoRow, standIns := [], harness := (true, "311d9114770813867c07a5e675490240823f57599795187e37fca2fd07bfd744"), looks := true }, kinds := [], alts := [], laidByText := true, laidKinds := [.data], laidTests := true, laidLooks := .later }
def BackendEmptyUptoCardSaid : Prop := Claim7.holds Tryz.pinned (.plain (OpenSpec.upto backendEmptySpec)) backendEmptyUptoCard

/-- THE SECOND FORM's CARD OF 'theodolitelaw14.BackendSure'. -/
def backendSureUptoCard : Claim7 := { stood := { row := backendSureUptoRow, standIns := [], harness := (true, "311d9114770813867c07a5e675490240823f57599795187e37fca2fd07bfd744"), looks := true }, kinds := [], alts := [], laidByText := true, laidKinds := [.data], laidTests := true, laidLooks := .later }
def BackendSureUptoCardSaid : Prop := Claim7.holds Tryz.pinned (.plain (OpenSpec.upto backendSureSpec)) backendSureUptoCard

/-- THE SECOND FORM's CARD OF 'theodolitelaw14.BackendBuild'. -/
def backendBuildUptoCard : Claim7 := { stood := { row := backendBuildUptoRow, standIns := [], harness := (true, "311d9114770813867c07a5e675490240823f57599795187e37fca2fd07bfd744"), looks := true }, kinds := [], alts := [], laidByText := true, laidKinds := [.data], laidTests := true, laidLooks := .later }
def BackendBuildUptoCardSaid : Prop := Claim7.holds Tryz.pinned (.plain (OpenSpec.upto backendBuildSpec)) backendBuildUptoCard

/-- THE SECOND FORM's CARD OF 'theodolitelaw14.BackendCerts'. -/
def backendCertsUptoCard : Claim7 := { stood := { row := backendCertsUptoRow, standIns := [], harness := (true, "311d9114770813867c07a5e675490240823f57599795187e37fca2fd07bfd744"), looks := true }, kinds := [], alts := [], laidByText := true, laidKinds := [.data], laidTests := true, laidLooks := .later }
def BackendCertsUptoCardSaid : Prop := Claim7.holds Tryz.pinned (.plain (OpenSpec.upto backendCertsSpec)) backendCertsUptoCard
end Rows
end Go.Proofs.YtejdhbfjjgcljaaGreatDoor
