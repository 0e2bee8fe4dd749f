/-
  NARROWER THAN 'FOR EVERY INPUT', by the rows' own cells (each row's printed sentence says how): HnswBuild: laid · HnswRuns: laid · HnswBuilt: laid · HnswNil: laid · HnswEmpty: laid · HnswKnown: laid · HnswWhole: laid · HnswSure: laid.
  DERIVED. THE GIVEN ROWS OF THIS SEAT. 8 by the template 'for every input the law returns true; each argument reads behind the call as it read before'; 0 by the template 'total and deterministic' (their statements: YtpbelkpfljhjlaaGreatDoorTotals.lean).
  GIVEN WITH THE SEED: the statements are not yours to turn. If you find one false, say at which input.
  Laid BY PROGRAM, IN A SANDBOX (cutbox-rows.mjs): the forced cells as the released guide's own fill.sh prints them over the translation c480483dd89d4ff3… (all of the seat's roots in one cut). By AI agents, Wed Nov 11 2026. No macro, syntax, notation, axiom, sorry.
-/
import Derived.Test.YtpbelkpfljhjlaaGreatDoorChecked
import GoSem.Claim
import GoSem.ClaimJoined
import GoSem.ClaimMapViews
import Derived.JoinedTies
import Derived.KernelRfl
namespace Go.Proofs.YtpbelkpfljhjlaaGreatDoor
/- THE CELL 'sum', in the pinned program and in every row, IS THE sha256 OF THE DUMP (.gsa) THAT YtpbelkpfljhjlaaGreatDoorProg.lean LOADS. Nothing in Lean hashes anything: it is a label: what it is worth is what the hold of that sum in a sandbox is worth. -/
noncomputable def Tryz.pinned : Pinned := { name := "ytpbelkpfljhjlaagreatdoor", sum := "c480483dd89d4ff3b767a119a26fc3f2a2333258d4e4d98b003b42888da64fa0", checked := Tryz.checked }
namespace Rows
def none {H : Type} : Left H := { results := [], args := [] }

/- WHAT THE LISTED PACKAGE-LEVEL VARIABLES READ AS WHEN THE CALL BEGINS. Each datum BY PROGRAM (the guide's laid-datum.mjs) off the statement by which the dump's own 'gosem.cut.vars' lays the variable. In a bare row this is a premise. The card (YtpbelkpfljhjlaaGreatDoorCards.lean) ties it to the program's text. -/
def laid_math_bits_deBruijn64tab {H : Type} : DataW H := .agg [.lit (.int .u8 0), .lit (.int .u8 1), .lit (.int .u8 56), .lit (.int .u8 2), .lit (.int .u8 57), .lit (.int .u8 49), .lit (.int .u8 28), .lit (.int .u8 3), .lit (.int .u8 61), .lit (.int .u8 58), .lit (.int .u8 42), .lit (.int .u8 50), .lit (.int .u8 38), .lit (.int .u8 29), .lit (.int .u8 17), .lit (.int .u8 4), .lit (.int .u8 62), .lit (.int .u8 47), .lit (.int .u8 59), .lit (.int .u8 36), .lit (.int .u8 45), .lit (.int .u8 43), .lit (.int .u8 51), .lit (.int .u8 22), .lit (.int .u8 53), .lit (.int .u8 39), .lit (.int .u8 33), .lit (.int .u8 30), .lit (.int .u8 24), .lit (.int .u8 18), .lit (.int .u8 12), .lit (.int .u8 5), .lit (.int .u8 63), .lit (.int .u8 55), .lit (.int .u8 48), .lit (.int .u8 27), .lit (.int .u8 60), .lit (.int .u8 41), .lit (.int .u8 37), .lit (.int .u8 16), .lit (.int .u8 46), .lit (.int .u8 35), .lit (.int .u8 44), .lit (.int .u8 21), .lit (.int .u8 52), .lit (.int .u8 32), .lit (.int .u8 23), .lit (.int .u8 11), .lit (.int .u8 54), .lit (.int .u8 26), .lit (.int .u8 40), .lit (.int .u8 15), .lit (.int .u8 34), .lit (.int .u8 20), .lit (.int .u8 31), .lit (.int .u8 10), .lit (.int .u8 25), .lit (.int .u8 14), .lit (.int .u8 19), .lit (.int .u8 9), .lit (.int .u8 13), .lit (.int .u8 8), .lit (.int .u8 7), .lit (.int .u8 6)]

/-- 'theodolitelaw11.HnswBuild': WHATEVER THE INPUT: true; the input reads as it did. -/
def hnswBuildSpec : ChangeSpec := { name := "hnswBuild", fn := fun _ => fun
  | [d1, d2, d3] => { results := [.lit (.bool true)], args := [d1, d2, d3] }
  | _ => none }
def hnswBuildRow : OpenClaim := { program := "ytpbelkpfljhjlaagreatdoor", sum := "c480483dd89d4ff3b767a119a26fc3f2a2333258d4e4d98b003b42888da64fa0", func := "theodolite/theodolitelaw11.HnswBuild", spec := "hnswBuild", inPlace := ["math/bits.Add64"], unfollowed := true, recurses := true, named := ["math/bits.deBruijn64tab"], apart := false, laid := [("math/bits.deBruijn64tab", laid_math_bits_deBruijn64tab)] }
def HnswBuildSaid : Prop := hnswBuildRow.holds Tryz.pinned (OpenSpec.ofChange hnswBuildSpec)

/-- ITS FALSE NEIGHBOUR: 'it returns false'. Refute it at one input. -/
def hnswBuildWrong : ChangeSpec := { name := "hnswBuild", fn := fun _ => fun
  | [d1, d2, d3] => { results := [.lit (.bool false)], args := [d1, d2, d3] }
  | _ => none }
def HnswBuildWrongFalsely : Prop := hnswBuildRow.holds Tryz.pinned (OpenSpec.ofChange hnswBuildWrong)

/-- 'theodolitelaw11.HnswRuns': WHATEVER THE INPUT: true; the input reads as it did. -/
def hnswRunsSpec : ChangeSpec := { name := "hnswRuns", fn := fun _ => fun
  | [d1, d2, d3, d4] => { results := [.lit (.bool true)], args := [d1, d2, d3, d4] }
  | _ => none }
def hnswRunsRow : OpenClaim := { program := "ytpbelkpfljhjlaagreatdoor", sum := "c480483dd89d4ff3b767a119a26fc3f2a2333258d4e4d98b003b42888da64fa0", func := "theodolite/theodolitelaw11.HnswRuns", spec := "hnswRuns", inPlace := ["math/bits.Add64"], unfollowed := true, recurses := true, named := ["math/bits.deBruijn64tab"], apart := false, laid := [("math/bits.deBruijn64tab", laid_math_bits_deBruijn64tab)] }
def HnswRunsSaid : Prop := hnswRunsRow.holds Tryz.pinned (OpenSpec.ofChange hnswRunsSpec)

/-- ITS FALSE NEIGHBOUR: 'it returns false'. Refute it at one input. -/
def hnswRunsWrong : ChangeSpec := { name := "hnswRuns", fn := fun _ => fun
  | [d1, d2, d3, d4] => { results := [.lit (.bool false)], args := [d1, d2, d3, d4] }
  | _ => none }
def HnswRunsWrongFalsely : Prop := hnswRunsRow.holds Tryz.pinned (OpenSpec.ofChange hnswRunsWrong)

/-- 'theodolitelaw11.HnswBuilt': WHATEVER THE INPUT: true; the input reads as it did. -/
def hnswBuiltSpec : ChangeSpec := { name := "hnswBuilt", fn := fun _ => fun
  | [d1, d2, d3, d4, d5] => { results := [.lit (.bool true)], args := [d1, d2, d3, d4, d5] }
  | _ => none }
def hnswBuiltRow : OpenClaim := { program := "ytpbelkpfljhjlaagreatdoor", sum := "c480483dd89d4ff3b767a119a26fc3f2a2333258d4e4d98b003b42888da64fa0", func := "theodolite/theodolitelaw11.HnswBuilt", spec := "hnswBuilt", inPlace := ["math/bits.Add64"], unfollowed := true, recurses := true, named := ["math/bits.deBruijn64tab"], apart := false, laid := [("math/bits.deBruijn64tab", laid_math_bits_deBruijn64tab)] }
def HnswBuiltSaid : Prop := hnswBuiltRow.holds Tryz.pinned (OpenSpec.ofChange hnswBuiltSpec)

/-- ITS FALSE NEIGHBOUR: 'it returns false'. Refute it at one input. -/
def hnswBuiltWrong : ChangeSpec := { name := "hnswBuilt", fn := fun _ => fun
  | [d1, d2, d3, d4, d5] => { results := [.lit (.bool false)], args := [d1, d2, d3, d4, d5] }
  | _ => none }
def HnswBuiltWrongFalsely : Prop := hnswBuiltRow.holds Tryz.pinned (OpenSpec.ofChange hnswBuiltWrong)

/-- 'theodolitelaw11.HnswNil': WHATEVER THE INPUT: true; the input reads as it did. -/
def hnswNilSpec : ChangeSpec := { name := "hnswNil", fn := fun _ => fun
  | [d] => { results := [.lit (.bool true)], args := [d] }
  | _ => none }
def hnswNilRow : OpenClaim := { program := "ytpbelkpfljhjlaagreatdoor", sum := "c480483dd89d4ff3b767a119a26fc3f2a2333258d4e4d98b003b42888da64fa0", func := "theodolite/theodolitelaw11.HnswNil", spec := "hnswNil", inPlace := ["math/bits.Add64"], unfollowed := true, recurses := true, named := ["math/bits.deBruijn64tab"], apart := false, laid := [("math/bits.deBruijn64tab", laid_math_bits_deBruijn64tab)] }
def HnswNilSaid : Prop := hnswNilRow.holds Tryz.pinned (OpenSpec.ofChange hnswNilSpec)

/-- ITS FALSE NEIGHBOUR: 'it returns false'. Refute it at one input. -/
def hnswNilWrong : ChangeSpec := { name := "hnswNil", fn := fun _ => fun
  | [d] => { results := [.lit (.bool false)], args := [d] }
  | _ => none }
def HnswNilWrongFalsely : Prop := hnswNilRow.holds Tryz.pinned (OpenSpec.ofChange hnswNilWrong)

/-- 'theodolitelaw11.HnswEmpty': WHATEVER THE INPUT: true; the input reads as it did. -/
def hnswEmptySpec : ChangeSpec := { name := "hnswEmpty", fn := fun _ => fun
  | [d1, d2, d3, d4, d5, d6] => { results := [.lit (.bool true)], args := [d1, d2, d3, d4, d5, d6] }
  | _ => none }
def hnswEmptyRow : OpenClaim := { program := "ytpbelkpfljhjlaagreatdoor", sum := "c480483dd89d4ff3b767a119a26fc3f2a2333258d4e4d98b003b42888da64fa0", func := "theodolite/theodolitelaw11.HnswEmpty", spec := "hnswEmpty", inPlace := ["math/bits.Add64"], unfollowed := true, recurses := true, named := ["math/bits.deBruijn64tab"], apart := false, laid := [("math/bits.deBruijn64tab", laid_math_bits_deBruijn64tab)] }
def HnswEmptySaid : Prop := hnswEmptyRow.holds Tryz.pinned (OpenSpec.ofChange hnswEmptySpec)

/-- ITS FALSE NEIGHBOUR: 'it returns false'. Refute it at one input. -/
def hnswEmptyWrong : ChangeSpec := { name := "hnswEmpty", fn := fun _ => fun
  | [d1, d2, d3, d4, d5, d6] => { results := [.lit (.bool false)], args := [d1, d2, d3, d4, d5, d6] }
  | _ => none }
def HnswEmptyWrongFalsely : Prop := hnswEmptyRow.holds Tryz.pinned (OpenSpec.ofChange hnswEmptyWrong)

/-- 'theodolitelaw11.HnswKnown': WHATEVER THE INPUT: true; the input reads as it did. -/
def hnswKnownSpec : ChangeSpec := { name := "hnswKnown", fn := fun _ => fun
  | [d1, d2, d3, d4, d5] => { results := [.lit (.bool true)], args := [d1, d2, d3, d4, d5] }
  | _ => none }
def hnswKnownRow : OpenClaim := { program := "ytpbelkpfljhjlaagreatdoor", sum := "c480483dd89d4ff3b767a119a26fc3f2a2333258d4e4d98b003b42888da64fa0", func := "theodolite/theodolitelaw11.HnswKnown", spec := "hnswKnown", inPlace := ["math/bits.Add64"], unfollowed := true, recurses := true, named := ["math/bits.deBruijn64tab"], apart := false, laid := [("math/bits.deBruijn64tab", laid_math_bits_deBruijn64tab)] }
def HnswKnownSaid : Prop := hnswKnownRow.holds Tryz.pinned (OpenSpec.ofChange hnswKnownSpec)

/-- ITS FALSE NEIGHBOUR: 'it returns false'. Refute it at one input. -/
def hnswKnownWrong : ChangeSpec := { name := "hnswKnown", fn := fun _ => fun
  | [d1, d2, d3, d4, d5] => { results := [.lit (.bool false)], args := [d1, d2, d3, d4, d5] }
  | _ => none }
def HnswKnownWrongFalsely : Prop := hnswKnownRow.holds Tryz.pinned (OpenSpec.ofChange hnswKnownWrong)

/-- 'theodolitelaw11.HnswWhole': WHATEVER THE INPUT: true; the input reads as it did. -/
def hnswWholeSpec : ChangeSpec := { name := "hnswWhole", fn := fun _ => fun
  | [d1, d2, d3, d4, d5] => { results := [.lit (.bool true)], args := [d1, d2, d3, d4, d5] }
  | _ => none }
def hnswWholeRow : OpenClaim := { program := "ytpbelkpfljhjlaagreatdoor", sum := "c480483dd89d4ff3b767a119a26fc3f2a2333258d4e4d98b003b42888da64fa0", func := "theodolite/theodolitelaw11.HnswWhole", spec := "hnswWhole", inPlace := ["math/bits.Add64"], unfollowed := true, recurses := true, named := ["math/bits.deBruijn64tab"], apart := false, laid := [("math/bits.deBruijn64tab", laid_math_bits_deBruijn64tab)] }
def HnswWholeSaid : Prop := hnswWholeRow.holds Tryz.pinned (OpenSpec.ofChange hnswWholeSpec)

/-- ITS FALSE NEIGHBOUR: 'it returns false'. Refute it at one input. -/
def hnswWholeWrong : ChangeSpec := { name := "hnswWhole", fn := fun _ => fun
  | [d1, d2, d3, d4, d5] => { results := [.lit (.bool false)], args := [d1, d2, d3, d4, d5] }
  | _ => none }
def HnswWholeWrongFalsely : Prop := hnswWholeRow.holds Tryz.pinned (OpenSpec.ofChange hnswWholeWrong)

/-- 'theodolitelaw11.HnswSure': WHATEVER THE INPUT: true; the input reads as it did. -/
def hnswSureSpec : ChangeSpec := { name := "hnswSure", fn := fun _ => fun
  | [d1, d2, d3, d4, d5, d6] => { results := [.lit (.bool true)], args := [d1, d2, d3, d4, d5, d6] }
  | _ => none }
def hnswSureRow : OpenClaim := { program := "ytpbelkpfljhjlaagreatdoor", sum := "c480483dd89d4ff3b767a119a26fc3f2a2333258d4e4d98b003b42888da64fa0", func := "theodolite/theodolitelaw11.HnswSure", spec := "hnswSure", inPlace := ["math/bits.Add64"], unfollowed := true, recurses := true, named := ["math/bits.deBruijn64tab"], apart := false, laid := [("math/bits.deBruijn64tab", laid_math_bits_deBruijn64tab)] }
def HnswSureSaid : Prop := hnswSureRow.holds Tryz.pinned (OpenSpec.ofChange hnswSureSpec)

/-- ITS FALSE NEIGHBOUR: 'it returns false'. Refute it at one input. -/
def hnswSureWrong : ChangeSpec := { name := "hnswSure", fn := fun _ => fun
  | [d1, d2, d3, d4, d5, d6] => { results := [.lit (.bool false)], args := [d1, d2, d3, d4, d5, d6] }
  | _ => none }
def HnswSureWrongFalsely : Prop := hnswSureRow.holds Tryz.pinned (OpenSpec.ofChange hnswSureWrong)

/- THE SECOND FORM. 'bulk': how many values and letters a reading holds, each counted each time it is reached (what is shared counts as often as it is met; a slice's spare places count too). A statement '..UptoSaid' is the law's where the arguments, and the package variables that the reading takes, are together of bulk at most 1048576: NARROWER than '..Said'. Prove '..Said' where nothing that the law and all that it calls make is longer than what came in: it says more and counts as full. Else prove '..UptoSaid'. A law counts once. -/
mutual
def uptoBulk {H : Type} : DataW H → Nat
  | .lit (.string bytes) => bytes.length + 1
  | .lit _ => 1
  | .nil => 1
  | .ptr d => uptoBulk d + 1
  | .slice elems spare => uptoBulkAll elems + uptoBulkAll spare + 1
  | .agg parts => uptoBulkAll parts + 1
  | .iface _ d => uptoBulk d + 1
  | .map entries => uptoBulkEntries entries + 1
  | .held _ => 1
def uptoBulkAll {H : Type} : List (DataW H) → Nat
  | [] => 0
  | d :: r => uptoBulk d + uptoBulkAll r
def uptoBulkEntries {H : Type} : List (Lit × DataW H) → Nat
  | [] => 0
  | x :: r => uptoBulkEntry x + uptoBulkEntries r
def uptoBulkEntry {H : Type} : Lit × DataW H → Nat
  | (.string bytes, d) => bytes.length + uptoBulk d + 1
  | (_, d) => uptoBulk d + 1
 end
def uptoSmall : (H : Type) → List (DataW H) → Bool := fun _ ds => decide (uptoBulkAll ds ≤ 1048576)
def OpenSpec.upto (s : _root_.Go.ChangeSpec) : _root_.Go.OpenSpec := { _root_.Go.OpenSpec.ofChange s with cond := some uptoSmall }

/-- 'theodolitelaw11.HnswBuild', WHERE WHAT IT READS IS OF BULK AT MOST 1048576: true; the input reads as it did. -/
def hnswBuildUptoRow : OpenClaim := { program := "ytpbelkpfljhjlaagreatdoor", sum := "c480483dd89d4ff3b767a119a26fc3f2a2333258d4e4d98b003b42888da64fa0", func := "theodolite/theodolitelaw11.HnswBuild", spec := "hnswBuild", inPlace := ["math/bits.Add64"], unfollowed := true, recurses := true, named := ["math/bits.deBruijn64tab"], apart := false, laid := [("math/bits.deBruijn64tab", laid_math_bits_deBruijn64tab)], narrowed := true }
def HnswBuildUptoSaid : Prop := hnswBuildUptoRow.holds Tryz.pinned (OpenSpec.upto hnswBuildSpec)

/-- 'theodolitelaw11.HnswRuns', WHERE WHAT IT READS IS OF BULK AT MOST 1048576: true; the input reads as it did. -/
def hnswRunsUptoRow : OpenClaim := { program := "ytpbelkpfljhjlaagreatdoor", sum := "c480483dd89d4ff3b767a119a26fc3f2a2333258d4e4d98b003b42888da64fa0", func := "theodolite/theodolitelaw11.HnswRuns", spec := "hnswRuns", inPlace := ["math/bits.Add64"], unfollowed := true, recurses := true, named := ["math/bits.deBruijn64tab"], apart := false, laid := [("math/bits.deBruijn64tab", laid_math_bits_deBruijn64tab)], narrowed := true }
def HnswRunsUptoSaid : Prop := hnswRunsUptoRow.holds Tryz.pinned (OpenSpec.upto hnswRunsSpec)

/-- 'theodolitelaw11.HnswBuilt', WHERE WHAT IT READS IS OF BULK AT MOST 1048576: true; the input reads as it did. -/
def hnswBuiltUptoRow : OpenClaim := { program := "ytpbelkpfljhjlaagreatdoor", sum := "c480483dd89d4ff3b767a119a26fc3f2a2333258d4e4d98b003b42888da64fa0", func := "theodolite/theodolitelaw11.HnswBuilt", spec := "hnswBuilt", inPlace := ["math/bits.Add64"], unfollowed := true, recurses := true, named := ["math/bits.deBruijn64tab"], apart := false, laid := [("math/bits.deBruijn64tab", laid_math_bits_deBruijn64tab)], narrowed := true }
def HnswBuiltUptoSaid : Prop := hnswBuiltUptoRow.holds Tryz.pinned (OpenSpec.upto hnswBuiltSpec)

/-- 'theodolitelaw11.HnswNil', WHERE WHAT IT READS IS OF BULK AT MOST 1048576: true; the input reads as it did. -/
def hnswNilUptoRow : OpenClaim := { program := "ytpbelkpfljhjlaagreatdoor", sum := "c480483dd89d4ff3b767a119a26fc3f2a2333258d4e4d98b003b42888da64fa0", func := "theodolite/theodolitelaw11.HnswNil", spec := "hnswNil", inPlace := ["math/bits.Add64"], unfollowed := true, recurses := true, named := ["math/bits.deBruijn64tab"], apart := false, laid := [("math/bits.deBruijn64tab", laid_math_bits_deBruijn64tab)], narrowed := true }
def HnswNilUptoSaid : Prop := hnswNilUptoRow.holds Tryz.pinned (OpenSpec.upto hnswNilSpec)

/-- 'theodolitelaw11.HnswEmpty', WHERE WHAT IT READS IS OF BULK AT MOST 1048576: true; the input reads as it did. -/
def hnswEmptyUptoRow : OpenClaim := { program := "ytpbelkpfljhjlaagreatdoor", sum := "c480483dd89d4ff3b767a119a26fc3f2a2333258d4e4d98b003b42888da64fa0", func := "theodolite/theodolitelaw11.HnswEmpty", spec := "hnswEmpty", inPlace := ["math/bits.Add64"], unfollowed := true, recurses := true, named := ["math/bits.deBruijn64tab"], apart := false, laid := [("math/bits.deBruijn64tab", laid_math_bits_deBruijn64tab)], narrowed := true }
def HnswEmptyUptoSaid : Prop := hnswEmptyUptoRow.holds Tryz.pinned (OpenSpec.upto hnswEmptySpec)

/-- 'theodolitelaw11.HnswKnown', WHERE WHAT IT READS IS OF BULK AT MOST 1048576: true; the input reads as it did. -/
def hnswKnownUptoRow : OpenClaim := { program := "ytpbelkpfljhjlaagreatdoor", sum := "c480483dd89d4ff3b767a119a26fc3f2a2333258d4e4d98b003b42888da64fa0", func := "theodolite/theodolitelaw11.HnswKnown", spec := "hnswKnown", inPlace := ["math/bits.Add64"], unfollowed := true, recurses := true, named := ["math/bits.deBruijn64tab"], apart := false, laid := [("math/bits.deBruijn64tab", laid_math_bits_deBruijn64tab)], narrowed := true }
def HnswKnownUptoSaid : Prop := hnswKnownUptoRow.holds Tryz.pinned (OpenSpec.upto hnswKnownSpec)

/-- 'theodolitelaw11.HnswWhole', WHERE WHAT IT READS IS OF BULK AT MOST 1048576: true; the input reads as it did. -/
def hnswWholeUptoRow : OpenClaim := { program := "ytpbelkpfljhjlaagreatdoor", sum := "c480483dd89d4ff3b767a119a26fc3f2a2333258d4e4d98b003b42888da64fa0", func := "theodolite/theodolitelaw11.HnswWhole", spec := "hnswWhole", inPlace := ["math/bits.Add64"], unfollowed := true, recurses := true, named := ["math/bits.deBruijn64tab"], apart := false, laid := [("math/bits.deBruijn64tab", laid_math_bits_deBruijn64tab)], narrowed := true }
def HnswWholeUptoSaid : Prop := hnswWholeUptoRow.holds Tryz.pinned (OpenSpec.upto hnswWholeSpec)

/-- 'theodolitelaw11.HnswSure', WHERE WHAT IT READS IS OF BULK AT MOST 1048576: true; the input reads as it did. -/
def hnswSureUptoRow : OpenClaim := { program := "ytpbelkpfljhjlaagreatdoor", sum := "c480483dd89d4ff3b767a119a26fc3f2a2333258d4e4d98b003b42888da64fa0", func := "theodolite/theodolitelaw11.HnswSure", spec := "hnswSure", inPlace := ["math/bits.Add64"], unfollowed := true, recurses := true, named := ["math/bits.deBruijn64tab"], apart := false, laid := [("math/bits.deBruijn64tab", laid_math_bits_deBruijn64tab)], narrowed := true }
def HnswSureUptoSaid : Prop := hnswSureUptoRow.holds Tryz.pinned (OpenSpec.upto hnswSureSpec)

end Rows
end Go.Proofs.YtpbelkpfljhjlaaGreatDoor
