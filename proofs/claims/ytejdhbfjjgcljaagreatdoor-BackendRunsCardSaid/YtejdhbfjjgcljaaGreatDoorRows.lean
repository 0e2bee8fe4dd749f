/-
  NARROWER THAN 'FOR EVERY INPUT', by the rows' own cells (each row's printed sentence says how): BackendAlike: laid · BackendRuns: laid · BackendWhole: laid · BackendBuilt: laid · BackendEmpty: laid · BackendSure: laid · BackendBuild: laid · BackendCerts: laid.
  DERIVED. THE GIVEN ROWS OF THIS SEAT. 8 by the template 'for every input the law returns true; each argument reads behind the call as it read before'; 0 by the template 'total and deterministic' (their statements: YtejdhbfjjgcljaaGreatDoorTotals.lean).
  GIVEN WITH THE SEED: the statements are not yours to turn. If you find one false, say at which input.
  Laid BY PROGRAM, IN A SANDBOX (cutbox-rows.mjs): the forced cells as the released guide's own fill.sh prints them over the translation 7fc1897cc3c8f9d5… (all of the seat's roots in one cut). By AI agents, Wed Nov 11 2026. No macro, syntax, notation, axiom, sorry.
-/
import Derived.Test.YtejdhbfjjgcljaaGreatDoorChecked
import GoSem.Claim
import GoSem.ClaimJoined
import GoSem.ClaimMapViews
import Derived.JoinedTies
import Derived.KernelRfl
namespace Go.Proofs.YtejdhbfjjgcljaaGreatDoor
/- THE CELL 'sum', in the pinned program and in every row, IS THE sha256 OF THE DUMP (.gsa) THAT YtejdhbfjjgcljaaGreatDoorProg.lean LOADS. Nothing in Lean hashes anything: it is a label: what it is worth is what the hold of that sum in a sandbox is worth. -/
noncomputable def Tryz.pinned : Pinned := { name := "ytejdhbfjjgcljaagreatdoor", sum := "7fc1897cc3c8f9d5d9591f93c1826015b64984d58843db341ba30e2b76969155", checked := Tryz.checked }
namespace Rows
def none {H : Type} : Left H := { results := [], args := [] }

/- WHAT THE LISTED PACKAGE-LEVEL VARIABLES READ AS WHEN THE CALL BEGINS. Each datum BY PROGRAM (the guide's laid-datum.mjs) off the statement by which the dump's own 'gosem.cut.vars' lays the variable. In a bare row this is a premise. The card (YtejdhbfjjgcljaaGreatDoorCards.lean) ties it to the program's text. -/
def laid_math_bits_deBruijn64tab {H : Type} : DataW H := .agg [.lit (.int .u8 0), .lit (.int .u8 1), .lit (.int .u8 56), .lit (.int .u8 2), .lit (.int .u8 57), .lit (.int .u8 49), .lit (.int .u8 28), .lit (.int .u8 3), .lit (.int .u8 61), .lit (.int .u8 58), .lit (.int .u8 42), .lit (.int .u8 50), .lit (.int .u8 38), .lit (.int .u8 29), .lit (.int .u8 17), .lit (.int .u8 4), .lit (.int .u8 62), .lit (.int .u8 47), .lit (.int .u8 59), .lit (.int .u8 36), .lit (.int .u8 45), .lit (.int .u8 43), .lit (.int .u8 51), .lit (.int .u8 22), .lit (.int .u8 53), .lit (.int .u8 39), .lit (.int .u8 33), .lit (.int .u8 30), .lit (.int .u8 24), .lit (.int .u8 18), .lit (.int .u8 12), .lit (.int .u8 5), .lit (.int .u8 63), .lit (.int .u8 55), .lit (.int .u8 48), .lit (.int .u8 27), .lit (.int .u8 60), .lit (.int .u8 41), .lit (.int .u8 37), .lit (.int .u8 16), .lit (.int .u8 46), .lit (.int .u8 35), .lit (.int .u8 44), .lit (.int .u8 21), .lit (.int .u8 52), .lit (.int .u8 32), .lit (.int .u8 23), .lit (.int .u8 11), .lit (.int .u8 54), .lit (.int .u8 26), .lit (.int .u8 40), .lit (.int .u8 15), .lit (.int .u8 34), .lit (.int .u8 20), .lit (.int .u8 31), .lit (.int .u8 10), .lit (.int .u8 25), .lit (.int .u8 14), .lit (.int .u8 19), .lit (.int .u8 9), .lit (.int .u8 13), .lit (.int .u8 8), .lit (.int .u8 7), .lit (.int .u8 6)]

/-- 'theodolitelaw14.BackendAlike': WHATEVER THE INPUT: true; the input reads as it did. -/
def backendAlikeSpec : ChangeSpec := { name := "backendAlike", fn := fun _ => fun
  | [d1, d2, d3, d4, d5, d6] => { results := [.lit (.bool true)], args := [d1, d2, d3, d4, d5, d6] }
  | _ => none }
def backendAlikeRow : OpenClaim := { program := "ytejdhbfjjgcljaagreatdoor", sum := "7fc1897cc3c8f9d5d9591f93c1826015b64984d58843db341ba30e2b76969155", func := "theodolite/theodolitelaw14.BackendAlike", spec := "backendAlike", inPlace := ["math/bits.Add64"], unfollowed := true, recurses := true, named := ["math/bits.deBruijn64tab"], apart := false, laid := [("math/bits.deBruijn64tab", laid_math_bits_deBruijn64tab)] }
def BackendAlikeSaid : Prop := backendAlikeRow.holds Tryz.pinned (OpenSpec.ofChange backendAlikeSpec)

/-- ITS FALSE NEIGHBOUR: 'it returns false'. Refute it at one input. -/
def backendAlikeWrong : ChangeSpec := { name := "backendAlike", fn := fun _ => fun
  | [d1, d2, d3, d4, d5, d6] => { results := [.lit (.bool false)], args := [d1, d2, d3, d4, d5, d6] }
  | _ => none }
def BackendAlikeWrongFalsely : Prop := backendAlikeRow.holds Tryz.pinned (OpenSpec.ofChange backendAlikeWrong)

/-- 'theodolitelaw14.BackendRuns': WHATEVER THE INPUT: true; the input reads as it did. -/
def backendRunsSpec : ChangeSpec := { name := "backendRuns", fn := fun _ => fun
  | [d1, d2, d3, d4] => { results := [.lit (.bool true)], args := [d1, d2, d3, d4] }
  | _ => none }
def backendRunsRow : OpenClaim := { program := "ytejdhbfjjgcljaagreatdoor", sum := "7fc1897cc3c8f9d5d9591f93c1826015b64984d58843db341ba30e2b76969155", func := "theodolite/theodolitelaw14.BackendRuns", spec := "backendRuns", inPlace := ["math/bits.Add64"], unfollowed := true, recurses := true, named := ["math/bits.deBruijn64tab"], apart := false, laid := [("math/bits.deBruijn64tab", laid_math_bits_deBruijn64tab)] }
def BackendRunsSaid : Prop := backendRunsRow.holds Tryz.pinned (OpenSpec.ofChange backendRunsSpec)

/-- ITS FALSE NEIGHBOUR: 'it returns false'. Refute it at one input. -/
def backendRunsWrong : ChangeSpec := { name := "backendRuns", fn := fun _ => fun
  | [d1, d2, d3, d4] => { results := [.lit (.bool false)], args := [d1, d2, d3, d4] }
  | _ => none }
def BackendRunsWrongFalsely : Prop := backendRunsRow.holds Tryz.pinned (OpenSpec.ofChange backendRunsWrong)

/-- 'theodolitelaw14.BackendWhole': WHATEVER THE INPUT: true; the input reads as it did. -/
def backendWholeSpec : ChangeSpec := { name := "backendWhole", fn := fun _ => fun
  | [d1, d2, d3, d4, d5] => { results := [.lit (.bool true)], args := [d1, d2, d3, d4, d5] }
  | _ => none }
def backendWholeRow : OpenClaim := { program := "ytejdhbfjjgcljaagreatdoor", sum := "7fc1897cc3c8f9d5d9591f93c1826015b64984d58843db341ba30e2b76969155", func := "theodolite/theodolitelaw14.BackendWhole", spec := "backendWhole", inPlace := ["math/bits.Add64"], unfollowed := true, recurses := true, named := ["math/bits.deBruijn64tab"], apart := false, laid := [("math/bits.deBruijn64tab", laid_math_bits_deBruijn64tab)] }
def BackendWholeSaid : Prop := backendWholeRow.holds Tryz.pinned (OpenSpec.ofChange backendWholeSpec)

/-- ITS FALSE NEIGHBOUR: 'it returns false'. Refute it at one input. -/
def backendWholeWrong : ChangeSpec := { name := "backendWhole", fn := fun _ => fun
  | [d1, d2, d3, d4, d5] => { results := [.lit (.bool false)], args := [d1, d2, d3, d4, d5] }
  | _ => none }
def BackendWholeWrongFalsely : Prop := backendWholeRow.holds Tryz.pinned (OpenSpec.ofChange backendWholeWrong)

/-- 'theodolitelaw14.BackendBuilt': WHATEVER THE INPUT: true; the input reads as it did. -/
def backendBuiltSpec : ChangeSpec := { name := "backendBuilt", fn := fun _ => fun
  | [d1, d2, d3, d4, d5] => { results := [.lit (.bool true)], args := [d1, d2, d3, d4, d5] }
  | _ => none }
def backendBuiltRow : OpenClaim := { program := "ytejdhbfjjgcljaagreatdoor", sum := "7fc1897cc3c8f9d5d9591f93c1826015b64984d58843db341ba30e2b76969155", func := "theodolite/theodolitelaw14.BackendBuilt", spec := "backendBuilt", inPlace := ["math/bits.Add64"], unfollowed := true, recurses := true, named := ["math/bits.deBruijn64tab"], apart := false, laid := [("math/bits.deBruijn64tab", laid_math_bits_deBruijn64tab)] }
def BackendBuiltSaid : Prop := backendBuiltRow.holds Tryz.pinned (OpenSpec.ofChange backendBuiltSpec)

/-- ITS FALSE NEIGHBOUR: 'it returns false'. Refute it at one input. -/
def backendBuiltWrong : ChangeSpec := { name := "backendBuilt", fn := fun _ => fun
  | [d1, d2, d3, d4, d5] => { results := [.lit (.bool false)], args := [d1, d2, d3, d4, d5] }
  | _ => none }
def BackendBuiltWrongFalsely : Prop := backendBuiltRow.holds Tryz.pinned (OpenSpec.ofChange backendBuiltWrong)

/-- 'theodolitelaw14.BackendEmpty': WHATEVER THE INPUT: true; the input reads as it did. -/
def backendEmptySpec : ChangeSpec := { name := "backendEmpty", fn := fun _ => fun
  | [d1, d2, d3, d4, d5, d6] => { results := [.lit (.bool true)], args := [d1, d2, d3, d4, d5, d6] }
  | _ => none }
def backendEmptyRow : OpenClaim := { program := "ytejdhbfjjgcljaagreatdoor", sum := "7fc1897cc3c8f9d5d9591f93c1826015b64984d58843db341ba30e2b76969155", func := "theodolite/theodolitelaw14.BackendEmpty", spec := "backendEmpty", inPlace := ["math/bits.Add64"], unfollowed := true, recurses := true, named := ["math/bits.deBruijn64tab"], apart := false, laid := [("math/bits.deBruijn64tab", laid_math_bits_deBruijn64tab)] }
def BackendEmptySaid : Prop := backendEmptyRow.holds Tryz.pinned (OpenSpec.ofChange backendEmptySpec)

/-- ITS FALSE NEIGHBOUR: 'it returns false'. Refute it at one input. -/
def backendEmptyWrong : ChangeSpec := { name := "backendEmpty", fn := fun _ => fun
  | [d1, d2, d3, d4, d5, d6] => { results := [.lit (.bool false)], args := [d1, d2, d3, d4, d5, d6] }
  | _ => none }
def BackendEmptyWrongFalsely : Prop := backendEmptyRow.holds Tryz.pinned (OpenSpec.ofChange backendEmptyWrong)

/-- 'theodolitelaw14.BackendSure': WHATEVER THE INPUT: true; the input reads as it did. -/
def backendSureSpec : ChangeSpec := { name := "backendSure", fn := fun _ => fun
  | [d1, d2, d3, d4, d5, d6] => { results := [.lit (.bool true)], args := [d1, d2, d3, d4, d5, d6] }
  | _ => none }
def backendSureRow : OpenClaim := { program := "ytejdhbfjjgcljaagreatdoor", sum := "7fc1897cc3c8f9d5d9591f93c1826015b64984d58843db341ba30e2b76969155", func := "theodolite/theodolitelaw14.BackendSure", spec := "backendSure", inPlace := ["math/bits.Add64"], unfollowed := true, recurses := true, named := ["math/bits.deBruijn64tab"], apart := false, laid := [("math/bits.deBruijn64tab", laid_math_bits_deBruijn64tab)] }
def BackendSureSaid : Prop := backendSureRow.holds Tryz.pinned (OpenSpec.ofChange backendSureSpec)

/-- ITS FALSE NEIGHBOUR: 'it returns false'. Refute it at one input. -/
def backendSureWrong : ChangeSpec := { name := "backendSure", fn := fun _ => fun
  | [d1, d2, d3, d4, d5, d6] => { results := [.lit (.bool false)], args := [d1, d2, d3, d4, d5, d6] }
  | _ => none }
def BackendSureWrongFalsely : Prop := backendSureRow.holds Tryz.pinned (OpenSpec.ofChange backendSureWrong)

/-- 'theodolitelaw14.BackendBuild': WHATEVER THE INPUT: true; the input reads as it did. -/
def backendBuildSpec : ChangeSpec := { name := "backendBuild", fn := fun _ => fun
  | [d1, d2, d3] => { results := [.lit (.bool true)], args := [d1, d2, d3] }
  | _ => none }
def backendBuildRow : OpenClaim := { program := "ytejdhbfjjgcljaagreatdoor", sum := "7fc1897cc3c8f9d5d9591f93c1826015b64984d58843db341ba30e2b76969155", func := "theodolite/theodolitelaw14.BackendBuild", spec := "backendBuild", inPlace := ["math/bits.Add64"], unfollowed := true, recurses := true, named := ["math/bits.deBruijn64tab"], apart := false, laid := [("math/bits.deBruijn64tab", laid_math_bits_deBruijn64tab)] }
def BackendBuildSaid : Prop := backendBuildRow.holds Tryz.pinned (OpenSpec.ofChange backendBuildSpec)

/-- ITS FALSE NEIGHBOUR: 'it returns false'. Refute it at one input. -/
def backendBuildWrong : ChangeSpec := { name := "backendBuild", fn := fun _ => fun
  | [d1, d2, d3] => { results := [.lit (.bool false)], args := [d1, d2, d3] }
  | _ => none }
def BackendBuildWrongFalsely : Prop := backendBuildRow.holds Tryz.pinned (OpenSpec.ofChange backendBuildWrong)

/-- 'theodolitelaw14.BackendCerts': WHATEVER THE INPUT: true; the input reads as it did. -/
def backendCertsSpec : ChangeSpec := { name := "backendCerts", fn := fun _ => fun
  | [d1, d2, d3, d4, d5, d6] => { results := [.lit (.bool true)], args := [d1, d2, d3, d4, d5, d6] }
  | _ => none }
def backendCertsRow : OpenClaim := { program := "ytejdhbfjjgcljaagreatdoor", sum := "7fc1897cc3c8f9d5d9591f93c1826015b64984d58843db341ba30e2b76969155", func := "theodolite/theodolitelaw14.BackendCerts", spec := "backendCerts", inPlace := ["math/bits.Add64"], unfollowed := true, recurses := true, named := ["math/bits.deBruijn64tab"], apart := false, laid := [("math/bits.deBruijn64tab", laid_math_bits_deBruijn64tab)] }
def BackendCertsSaid : Prop := backendCertsRow.holds Tryz.pinned (OpenSpec.ofChange backendCertsSpec)

/-- ITS FALSE NEIGHBOUR: 'it returns false'. Refute it at one input. -/
def backendCertsWrong : ChangeSpec := { name := "backendCerts", fn := fun _ => fun
  | [d1, d2, d3, d4, d5, d6] => { results := [.lit (.bool false)], args := [d1, d2, d3, d4, d5, d6] }
  | _ => none }
def BackendCertsWrongFalsely : Prop := backendCertsRow.holds Tryz.pinned (OpenSpec.ofChange backendCertsWrong)

/- THE SECOND FORM. 'bulk': how many values and letters a reading holds, each counted each time it is reached (what is shared counts as often as it is met; a slice's spare places count too). A statement '..UptoSaid' is the law's where the arguments, and the package variables that the reading takes, are together of bulk at most 1048576: NARROWER than '..Said'. Prove '..Said' where nothing that the law and all that it calls make is longer than what came in: it says more and counts as full. Else prove '..UptoSaid'. A law counts once. -/
mutual
def uptoBulk {H : Type} : DataW H → Nat
  | .lit (.string bytes) => bytes.length + 1
  | .lit _ => 1
  | .nil => 1
  | .ptr d => uptoBulk d + 1
  | .slice elems spare => uptoBulkAll elems + uptoBulkAll spare + 1
  | .agg parts => uptoBulkAll parts + 1
  | .iface _ d => uptoBulk d + 1
  | .map entries => uptoBulkEntries entries + 1
  | .held _ => 1
def uptoBulkAll {H : Type} : List (DataW H) → Nat
  | [] => 0
  | d :: r => uptoBulk d + uptoBulkAll r
def uptoBulkEntries {H : Type} : List (Lit × DataW H) → Nat
  | [] => 0
  | x :: r => uptoBulkEntry x + uptoBulkEntries r
def uptoBulkEntry {H : Type} : Lit × DataW H → Nat
  | (.string bytes, d) => bytes.length + uptoBulk d + 1
  | (_, d) => uptoBulk d + 1
 end
def uptoSmall : (H : Type) → List (DataW H) → Bool := fun _ ds => decide (uptoBulkAll ds ≤ 1048576)
def OpenSpec.upto (s : _root_.Go.ChangeSpec) : _root_.Go.OpenSpec := { _root_.Go.OpenSpec.ofChange s with cond := some uptoSmall }

/-- 'theodolitelaw14.BackendAlike', WHERE WHAT IT READS IS OF BULK AT MOST 1048576: true; the input reads as it did. -/
def backendAlikeUptoRow : OpenClaim := { program := "ytejdhbfjjgcljaagreatdoor", sum := "7fc1897cc3c8f9d5d9591f93c1826015b64984d58843db341ba30e2b76969155", func := "theodolite/theodolitelaw14.BackendAlike", spec := "backendAlike", inPlace := ["math/bits.Add64"], unfollowed := true, recurses := true, named := ["math/bits.deBruijn64tab"], apart := false, laid := [("math/bits.deBruijn64tab", laid_math_bits_deBruijn64tab)], narrowed := true }
def BackendAlikeUptoSaid : Prop := backendAlikeUptoRow.holds Tryz.pinned (OpenSpec.upto backendAlikeSpec)

/-- 'theodolitelaw14.BackendRuns', WHERE WHAT IT READS IS OF BULK AT MOST 1048576: true; the input reads as it did. -/
def backendRunsUptoRow : OpenClaim := { program := "ytejdhbfjjgcljaagreatdoor", sum := "7fc1897cc3c8f9d5d9591f93c1826015b64984d58843db341ba30e2b76969155", func := "theodolite/theodolitelaw14.BackendRuns", spec := "backendRuns", inPlace := ["math/bits.Add64"], unfollowed := true, recurses := true, named := ["math/bits.deBruijn64tab"], apart := false, laid := [("math/bits.deBruijn64tab", laid_math_bits_deBruijn64tab)], narrowed := true }
def BackendRunsUptoSaid : Prop := backendRunsUptoRow.holds Tryz.pinned (OpenSpec.upto backendRunsSpec)

/-- 'theodolitelaw14.BackendWhole', WHERE WHAT IT READS IS OF BULK AT MOST 1048576: true; the input reads as it did. -/
def backendWholeUptoRow : OpenClaim := { program := "ytejdhbfjjgcljaagreatdoor", sum := "7fc1897cc3c8f9d5d9591f93c1826015b64984d58843db341ba30e2b76969155", func := "theodolite/theodolitelaw14.BackendWhole", spec := "backendWhole", inPlace := ["math/bits.Add64"], unfollowed := true, recurses := true, named := ["math/bits.deBruijn64tab"], apart := false, laid := [("math/bits.deBruijn64tab", laid_math_bits_deBruijn64tab)], narrowed := true }
def BackendWholeUptoSaid : Prop := backendWholeUptoRow.holds Tryz.pinned (OpenSpec.upto backendWholeSpec)

/-- 'theodolitelaw14.BackendBuilt', WHERE WHAT IT READS IS OF BULK AT MOST 1048576: true; the input reads as it did. -/
def backendBuiltUptoRow : OpenClaim := { program := "ytejdhbfjjgcljaagreatdoor", sum := "7fc1897cc3c8f9d5d9591f93c1826015b64984d58843db341ba30e2b76969155", func := "theodolite/theodolitelaw14.BackendBuilt", spec := "backendBuilt", inPlace := ["math/bits.Add64"], unfollowed := true, recurses := true, named := ["math/bits.deBruijn64tab"], apart := false, laid := [("math/bits.deBruijn64tab", laid_math_bits_deBruijn64tab)], narrowed := true }
def BackendBuiltUptoSaid : Prop := backendBuiltUptoRow.holds Tryz.pinned (OpenSpec.upto backendBuiltSpec)

/-- 'theodolitelaw14.BackendEmpty', WHERE WHAT IT READS IS OF BULK AT MOST 1048576: true; the input reads as it did. -/
def backendEmptyUptoRow : OpenClaim := { program := "ytejdhbfjjgcljaagreatdoor", sum := "7fc1897cc3c8f9d5d9591f93c1826015b64984d58843db341ba30e2b76969155", func := "theodolite/theodolitelaw14.BackendEmpty", spec := "backendEmpty", inPlace := ["math/bits.Add64"], unfollowed := true, recurses := true, named := ["math/bits.deBruijn64tab"], apart := false, laid := [("math/bits.deBruijn64tab", laid_math_bits_deBruijn64tab)], narrowed := true }
def BackendEmptyUptoSaid : Prop := backendEmptyUptoRow.holds Tryz.pinned (OpenSpec.upto backendEmptySpec)

/-- 'theodolitelaw14.BackendSure', WHERE WHAT IT READS IS OF BULK AT MOST 1048576: true; the input reads as it did. -/
def backendSureUptoRow : OpenClaim := { program := "ytejdhbfjjgcljaagreatdoor", sum := "7fc1897cc3c8f9d5d9591f93c1826015b64984d58843db341ba30e2b76969155", func := "theodolite/theodolitelaw14.BackendSure", spec := "backendSure", inPlace := ["math/bits.Add64"], unfollowed := true, recurses := true, named := ["math/bits.deBruijn64tab"], apart := false, laid := [("math/bits.deBruijn64tab", laid_math_bits_deBruijn64tab)], narrowed := true }
def BackendSureUptoSaid : Prop := backendSureUptoRow.holds Tryz.pinned (OpenSpec.upto backendSureSpec)

/-- 'theodolitelaw14.BackendBuild', WHERE WHAT IT READS IS OF BULK AT MOST 1048576: true; the input reads as it did. -/
def backendBuildUptoRow : OpenClaim := { program := "ytejdhbfjjgcljaagreatdoor", sum := "7fc1897cc3c8f9d5d9591f93c1826015b64984d58843db341ba30e2b76969155", func := "theodolite/theodolitelaw14.BackendBuild", spec := "backendBuild", inPlace := ["math/bits.Add64"], unfollowed := true, recurses := true, named := ["math/bits.deBruijn64tab"], apart := false, laid := [("math/bits.deBruijn64tab", laid_math_bits_deBruijn64tab)], narrowed := true }
def BackendBuildUptoSaid : Prop := backendBuildUptoRow.holds Tryz.pinned (OpenSpec.upto backendBuildSpec)

/-- 'theodolitelaw14.BackendCerts', WHERE WHAT IT READS IS OF BULK AT MOST 1048576: true; the input reads as it did. -/
def backendCertsUptoRow : OpenClaim := { program := "ytejdhbfjjgcljaagreatdoor", sum := "7fc1897cc3c8f9d5d9591f93c1826015b64984d58843db341ba30e2b76969155", func := "theodolite/theodolitelaw14.BackendCerts", spec := "backendCerts", inPlace := ["math/bits.Add64"], unfollowed := true, recurses := true, named := ["math/bits.deBruijn64tab"], apart := false, laid := [("math/bits.deBruijn64tab", laid_math_bits_deBruijn64tab)], narrowed := true }
def BackendCertsUptoSaid : Prop := backendCertsUptoRow.holds Tryz.pinned (OpenSpec.upto backendCertsSpec)

end Rows
end Go.Proofs.YtejdhbfjjgcljaaGreatDoor
