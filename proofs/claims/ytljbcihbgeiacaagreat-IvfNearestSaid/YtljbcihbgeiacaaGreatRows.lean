/-
  No cell of these rows narrows 'for every input' (looked for: loops, veiled, ifaces, maps, wideKeys, modest, calm, conditions, laid).
  DERIVED. THE GIVEN ROWS OF THIS SEAT. 9 by the template 'for every input the law returns true; each argument reads behind the call as it read before'; 0 by the template 'total and deterministic' (their statements: YtljbcihbgeiacaaGreatTotals.lean).
  GIVEN WITH THE SEED: the statements are not yours to turn. If you find one false, say at which input.
  Laid BY PROGRAM, IN A SANDBOX (cutbox-rows.mjs): the forced cells as the released guide's own fill.sh prints them over the translation e5aa3673cbedbbbe… (all of the seat's roots in one cut). By AI agents, Wed Nov 11 2026. No macro, syntax, notation, axiom, sorry.
-/
import Derived.Test.YtljbcihbgeiacaaGreatChecked
import GoSem.Claim
import GoSem.ClaimJoined
import GoSem.ClaimMapViews
import Derived.JoinedTies
import Derived.KernelRfl
namespace Go.Proofs.YtljbcihbgeiacaaGreat
/- THE CELL 'sum', in the pinned program and in every row, IS THE sha256 OF THE DUMP (.gsa) THAT YtljbcihbgeiacaaGreatProg.lean LOADS. Nothing in Lean hashes anything: it is a label: what it is worth is what the hold of that sum in a sandbox is worth. -/
noncomputable def Tryz.pinned : Pinned := { name := "ytljbcihbgeiacaagreat", sum := "e5aa3673cbedbbbebf1a12597018144f717f72ad4faeb220735563e5eb40eb1f", checked := Tryz.checked }
namespace Rows
def none {H : Type} : Left H := { results := [], args := [] }

/-- 'theodolitelaw09.IvfBuild': WHATEVER THE INPUT: true; the input reads as it did. -/
def ivfBuildSpec : ChangeSpec := { name := "ivfBuild", fn := fun _ => fun
  | [d1, d2, d3] => { results := [.lit (.bool true)], args := [d1, d2, d3] }
  | _ => none }
def ivfBuildRow : OpenClaim := { program := "ytljbcihbgeiacaagreat", sum := "e5aa3673cbedbbbebf1a12597018144f717f72ad4faeb220735563e5eb40eb1f", func := "theodolite/theodolitelaw09.IvfBuild", spec := "ivfBuild", inPlace := ["math/bits.Add64"], unfollowed := true, recurses := true, apart := false }
def IvfBuildSaid : Prop := ivfBuildRow.holds Tryz.pinned (OpenSpec.ofChange ivfBuildSpec)

/-- ITS FALSE NEIGHBOUR: 'it returns false'. Refute it at one input. -/
def ivfBuildWrong : ChangeSpec := { name := "ivfBuild", fn := fun _ => fun
  | [d1, d2, d3] => { results := [.lit (.bool false)], args := [d1, d2, d3] }
  | _ => none }
def IvfBuildWrongFalsely : Prop := ivfBuildRow.holds Tryz.pinned (OpenSpec.ofChange ivfBuildWrong)

/-- 'theodolitelaw09.IvfRuns': WHATEVER THE INPUT: true; the input reads as it did. -/
def ivfRunsSpec : ChangeSpec := { name := "ivfRuns", fn := fun _ => fun
  | [d1, d2, d3, d4] => { results := [.lit (.bool true)], args := [d1, d2, d3, d4] }
  | _ => none }
def ivfRunsRow : OpenClaim := { program := "ytljbcihbgeiacaagreat", sum := "e5aa3673cbedbbbebf1a12597018144f717f72ad4faeb220735563e5eb40eb1f", func := "theodolite/theodolitelaw09.IvfRuns", spec := "ivfRuns", inPlace := ["math/bits.Add64"], unfollowed := true, recurses := true, apart := false }
def IvfRunsSaid : Prop := ivfRunsRow.holds Tryz.pinned (OpenSpec.ofChange ivfRunsSpec)

/-- ITS FALSE NEIGHBOUR: 'it returns false'. Refute it at one input. -/
def ivfRunsWrong : ChangeSpec := { name := "ivfRuns", fn := fun _ => fun
  | [d1, d2, d3, d4] => { results := [.lit (.bool false)], args := [d1, d2, d3, d4] }
  | _ => none }
def IvfRunsWrongFalsely : Prop := ivfRunsRow.holds Tryz.pinned (OpenSpec.ofChange ivfRunsWrong)

/-- 'theodolitelaw09.IvfBuilt': WHATEVER THE INPUT: true; the input reads as it did. -/
def ivfBuiltSpec : ChangeSpec := { name := "ivfBuilt", fn := fun _ => fun
  | [d1, d2, d3, d4, d5] => { results := [.lit (.bool true)], args := [d1, d2, d3, d4, d5] }
  | _ => none }
def ivfBuiltRow : OpenClaim := { program := "ytljbcihbgeiacaagreat", sum := "e5aa3673cbedbbbebf1a12597018144f717f72ad4faeb220735563e5eb40eb1f", func := "theodolite/theodolitelaw09.IvfBuilt", spec := "ivfBuilt", inPlace := ["math/bits.Add64"], unfollowed := true, recurses := true, apart := false }
def IvfBuiltSaid : Prop := ivfBuiltRow.holds Tryz.pinned (OpenSpec.ofChange ivfBuiltSpec)

/-- ITS FALSE NEIGHBOUR: 'it returns false'. Refute it at one input. -/
def ivfBuiltWrong : ChangeSpec := { name := "ivfBuilt", fn := fun _ => fun
  | [d1, d2, d3, d4, d5] => { results := [.lit (.bool false)], args := [d1, d2, d3, d4, d5] }
  | _ => none }
def IvfBuiltWrongFalsely : Prop := ivfBuiltRow.holds Tryz.pinned (OpenSpec.ofChange ivfBuiltWrong)

/-- 'theodolitelaw09.IvfNil': WHATEVER THE INPUT: true; the input reads as it did. -/
def ivfNilSpec : ChangeSpec := { name := "ivfNil", fn := fun _ => fun
  | [d] => { results := [.lit (.bool true)], args := [d] }
  | _ => none }
def ivfNilRow : OpenClaim := { program := "ytljbcihbgeiacaagreat", sum := "e5aa3673cbedbbbebf1a12597018144f717f72ad4faeb220735563e5eb40eb1f", func := "theodolite/theodolitelaw09.IvfNil", spec := "ivfNil", inPlace := ["math/bits.Add64"], unfollowed := true, recurses := true, apart := false }
def IvfNilSaid : Prop := ivfNilRow.holds Tryz.pinned (OpenSpec.ofChange ivfNilSpec)

/-- ITS FALSE NEIGHBOUR: 'it returns false'. Refute it at one input. -/
def ivfNilWrong : ChangeSpec := { name := "ivfNil", fn := fun _ => fun
  | [d] => { results := [.lit (.bool false)], args := [d] }
  | _ => none }
def IvfNilWrongFalsely : Prop := ivfNilRow.holds Tryz.pinned (OpenSpec.ofChange ivfNilWrong)

/-- 'theodolitelaw09.IvfEmpty': WHATEVER THE INPUT: true; the input reads as it did. -/
def ivfEmptySpec : ChangeSpec := { name := "ivfEmpty", fn := fun _ => fun
  | [d1, d2, d3, d4, d5, d6] => { results := [.lit (.bool true)], args := [d1, d2, d3, d4, d5, d6] }
  | _ => none }
def ivfEmptyRow : OpenClaim := { program := "ytljbcihbgeiacaagreat", sum := "e5aa3673cbedbbbebf1a12597018144f717f72ad4faeb220735563e5eb40eb1f", func := "theodolite/theodolitelaw09.IvfEmpty", spec := "ivfEmpty", inPlace := ["math/bits.Add64"], unfollowed := true, recurses := true, apart := false }
def IvfEmptySaid : Prop := ivfEmptyRow.holds Tryz.pinned (OpenSpec.ofChange ivfEmptySpec)

/-- ITS FALSE NEIGHBOUR: 'it returns false'. Refute it at one input. -/
def ivfEmptyWrong : ChangeSpec := { name := "ivfEmpty", fn := fun _ => fun
  | [d1, d2, d3, d4, d5, d6] => { results := [.lit (.bool false)], args := [d1, d2, d3, d4, d5, d6] }
  | _ => none }
def IvfEmptyWrongFalsely : Prop := ivfEmptyRow.holds Tryz.pinned (OpenSpec.ofChange ivfEmptyWrong)

/-- 'theodolitelaw09.IvfLists': WHATEVER THE INPUT: true; the input reads as it did. -/
def ivfListsSpec : ChangeSpec := { name := "ivfLists", fn := fun _ => fun
  | [d1, d2, d3, d4] => { results := [.lit (.bool true)], args := [d1, d2, d3, d4] }
  | _ => none }
def ivfListsRow : OpenClaim := { program := "ytljbcihbgeiacaagreat", sum := "e5aa3673cbedbbbebf1a12597018144f717f72ad4faeb220735563e5eb40eb1f", func := "theodolite/theodolitelaw09.IvfLists", spec := "ivfLists", inPlace := ["math/bits.Add64"], unfollowed := true, recurses := true, apart := false }
def IvfListsSaid : Prop := ivfListsRow.holds Tryz.pinned (OpenSpec.ofChange ivfListsSpec)

/-- ITS FALSE NEIGHBOUR: 'it returns false'. Refute it at one input. -/
def ivfListsWrong : ChangeSpec := { name := "ivfLists", fn := fun _ => fun
  | [d1, d2, d3, d4] => { results := [.lit (.bool false)], args := [d1, d2, d3, d4] }
  | _ => none }
def IvfListsWrongFalsely : Prop := ivfListsRow.holds Tryz.pinned (OpenSpec.ofChange ivfListsWrong)

/-- 'theodolitelaw09.IvfWhole': WHATEVER THE INPUT: true; the input reads as it did. -/
def ivfWholeSpec : ChangeSpec := { name := "ivfWhole", fn := fun _ => fun
  | [d1, d2, d3, d4, d5] => { results := [.lit (.bool true)], args := [d1, d2, d3, d4, d5] }
  | _ => none }
def ivfWholeRow : OpenClaim := { program := "ytljbcihbgeiacaagreat", sum := "e5aa3673cbedbbbebf1a12597018144f717f72ad4faeb220735563e5eb40eb1f", func := "theodolite/theodolitelaw09.IvfWhole", spec := "ivfWhole", inPlace := ["math/bits.Add64"], unfollowed := true, recurses := true, apart := false }
def IvfWholeSaid : Prop := ivfWholeRow.holds Tryz.pinned (OpenSpec.ofChange ivfWholeSpec)

/-- ITS FALSE NEIGHBOUR: 'it returns false'. Refute it at one input. -/
def ivfWholeWrong : ChangeSpec := { name := "ivfWhole", fn := fun _ => fun
  | [d1, d2, d3, d4, d5] => { results := [.lit (.bool false)], args := [d1, d2, d3, d4, d5] }
  | _ => none }
def IvfWholeWrongFalsely : Prop := ivfWholeRow.holds Tryz.pinned (OpenSpec.ofChange ivfWholeWrong)

/-- 'theodolitelaw09.IvfSure': WHATEVER THE INPUT: true; the input reads as it did. -/
def ivfSureSpec : ChangeSpec := { name := "ivfSure", fn := fun _ => fun
  | [d1, d2, d3, d4, d5, d6] => { results := [.lit (.bool true)], args := [d1, d2, d3, d4, d5, d6] }
  | _ => none }
def ivfSureRow : OpenClaim := { program := "ytljbcihbgeiacaagreat", sum := "e5aa3673cbedbbbebf1a12597018144f717f72ad4faeb220735563e5eb40eb1f", func := "theodolite/theodolitelaw09.IvfSure", spec := "ivfSure", inPlace := ["math/bits.Add64"], unfollowed := true, recurses := true, apart := false }
def IvfSureSaid : Prop := ivfSureRow.holds Tryz.pinned (OpenSpec.ofChange ivfSureSpec)

/-- ITS FALSE NEIGHBOUR: 'it returns false'. Refute it at one input. -/
def ivfSureWrong : ChangeSpec := { name := "ivfSure", fn := fun _ => fun
  | [d1, d2, d3, d4, d5, d6] => { results := [.lit (.bool false)], args := [d1, d2, d3, d4, d5, d6] }
  | _ => none }
def IvfSureWrongFalsely : Prop := ivfSureRow.holds Tryz.pinned (OpenSpec.ofChange ivfSureWrong)

/-- 'theodolitelaw09.IvfNearest': WHATEVER THE INPUT: true; the input reads as it did. -/
def ivfNearestSpec : ChangeSpec := { name := "ivfNearest", fn := fun _ => fun
  | [d1, d2, d3, d4, d5] => { results := [.lit (.bool true)], args := [d1, d2, d3, d4, d5] }
  | _ => none }
def ivfNearestRow : OpenClaim := { program := "ytljbcihbgeiacaagreat", sum := "e5aa3673cbedbbbebf1a12597018144f717f72ad4faeb220735563e5eb40eb1f", func := "theodolite/theodolitelaw09.IvfNearest", spec := "ivfNearest", inPlace := ["math/bits.Add64"], unfollowed := true, recurses := true, apart := false }
def IvfNearestSaid : Prop := ivfNearestRow.holds Tryz.pinned (OpenSpec.ofChange ivfNearestSpec)

/-- ITS FALSE NEIGHBOUR: 'it returns false'. Refute it at one input. -/
def ivfNearestWrong : ChangeSpec := { name := "ivfNearest", fn := fun _ => fun
  | [d1, d2, d3, d4, d5] => { results := [.lit (.bool false)], args := [d1, d2, d3, d4, d5] }
  | _ => none }
def IvfNearestWrongFalsely : Prop := ivfNearestRow.holds Tryz.pinned (OpenSpec.ofChange ivfNearestWrong)

/- THE SECOND FORM. 'bulk': how many values and letters a reading holds, each counted each time it is reached (what is shared counts as often as it is met; a slice's spare places count too). A statement '..UptoSaid' is the law's where the arguments, and the package variables that the reading takes, are together of bulk at most 1048576: NARROWER than '..Said'. Prove '..Said' where nothing that the law and all that it calls make is longer than what came in: it says more and counts as full. Else prove '..UptoSaid'. A law counts once. -/
mutual
def uptoBulk {H : Type} : DataW H → Nat
  | .lit (.string bytes) => bytes.length + 1
  | .lit _ => 1
  | .nil => 1
  | .ptr d => uptoBulk d + 1
  | .slice elems spare => uptoBulkAll elems + uptoBulkAll spare + 1
  | .agg parts => uptoBulkAll parts + 1
  | .iface _ d => uptoBulk d + 1
  | .map entries => uptoBulkEntries entries + 1
  | .held _ => 1
def uptoBulkAll {H : Type} : List (DataW H) → Nat
  | [] => 0
  | d :: r => uptoBulk d + uptoBulkAll r
def uptoBulkEntries {H : Type} : List (Lit × DataW H) → Nat
  | [] => 0
  | x :: r => uptoBulkEntry x + uptoBulkEntries r
def uptoBulkEntry {H : Type} : Lit × DataW H → Nat
  | (.string bytes, d) => bytes.length + uptoBulk d + 1
  | (_, d) => uptoBulk d + 1
 end
def uptoSmall : (H : Type) → List (DataW H) → Bool := fun _ ds => decide (uptoBulkAll ds ≤ 1048576)
def OpenSpec.upto (s : _root_.Go.ChangeSpec) : _root_.Go.OpenSpec := { _root_.Go.OpenSpec.ofChange s with cond := some uptoSmall }

/-- 'theodolitelaw09.IvfBuild', WHERE WHAT IT READS IS OF BULK AT MOST 1048576: true; the input reads as it did. -/
def ivfBuildUptoRow : OpenClaim := { program := "ytljbcihbgeiacaagreat", sum := "e5aa3673cbedbbbebf1a12597018144f717f72ad4faeb220735563e5eb40eb1f", func := "theodolite/theodolitelaw09.IvfBuild", spec := "ivfBuild", inPlace := ["math/bits.Add64"], unfollowed := true, recurses := true, apart := false, narrowed := true }
def IvfBuildUptoSaid : Prop := ivfBuildUptoRow.holds Tryz.pinned (OpenSpec.upto ivfBuildSpec)

/-- 'theodolitelaw09.IvfRuns', WHERE WHAT IT READS IS OF BULK AT MOST 1048576: true; the input reads as it did. -/
def ivfRunsUptoRow : OpenClaim := { program := "ytljbcihbgeiacaagreat", sum := "e5aa3673cbedbbbebf1a12597018144f717f72ad4faeb220735563e5eb40eb1f", func := "theodolite/theodolitelaw09.IvfRuns", spec := "ivfRuns", inPlace := ["math/bits.Add64"], unfollowed := true, recurses := true, apart := false, narrowed := true }
def IvfRunsUptoSaid : Prop := ivfRunsUptoRow.holds Tryz.pinned (OpenSpec.upto ivfRunsSpec)

/-- 'theodolitelaw09.IvfBuilt', WHERE WHAT IT READS IS OF BULK AT MOST 1048576: true; the input reads as it did. -/
def ivfBuiltUptoRow : OpenClaim := { program := "ytljbcihbgeiacaagreat", sum := "e5aa3673cbedbbbebf1a12597018144f717f72ad4faeb220735563e5eb40eb1f", func := "theodolite/theodolitelaw09.IvfBuilt", spec := "ivfBuilt", inPlace := ["math/bits.Add64"], unfollowed := true, recurses := true, apart := false, narrowed := true }
def IvfBuiltUptoSaid : Prop := ivfBuiltUptoRow.holds Tryz.pinned (OpenSpec.upto ivfBuiltSpec)

/-- 'theodolitelaw09.IvfNil', WHERE WHAT IT READS IS OF BULK AT MOST 1048576: true; the input reads as it did. -/
def ivfNilUptoRow : OpenClaim := { program := "ytljbcihbgeiacaagreat", sum := "e5aa3673cbedbbbebf1a12597018144f717f72ad4faeb220735563e5eb40eb1f", func := "theodolite/theodolitelaw09.IvfNil", spec := "ivfNil", inPlace := ["math/bits.Add64"], unfollowed := true, recurses := true, apart := false, narrowed := true }
def IvfNilUptoSaid : Prop := ivfNilUptoRow.holds Tryz.pinned (OpenSpec.upto ivfNilSpec)

/-- 'theodolitelaw09.IvfEmpty', WHERE WHAT IT READS IS OF BULK AT MOST 1048576: true; the input reads as it did. -/
def ivfEmptyUptoRow : OpenClaim := { program := "ytljbcihbgeiacaagreat", sum := "e5aa3673cbedbbbebf1a12597018144f717f72ad4faeb220735563e5eb40eb1f", func := "theodolite/theodolitelaw09.IvfEmpty", spec := "ivfEmpty", inPlace := ["math/bits.Add64"], unfollowed := true, recurses := true, apart := false, narrowed := true }
def IvfEmptyUptoSaid : Prop := ivfEmptyUptoRow.holds Tryz.pinned (OpenSpec.upto ivfEmptySpec)

/-- 'theodolitelaw09.IvfLists', WHERE WHAT IT READS IS OF BULK AT MOST 1048576: true; the input reads as it did. -/
def ivfListsUptoRow : OpenClaim := { program := "ytljbcihbgeiacaagreat", sum := "e5aa3673cbedbbbebf1a12597018144f717f72ad4faeb220735563e5eb40eb1f", func := "theodolite/theodolitelaw09.IvfLists", spec := "ivfLists", inPlace := ["math/bits.Add64"], unfollowed := true, recurses := true, apart := false, narrowed := true }
def IvfListsUptoSaid : Prop := ivfListsUptoRow.holds Tryz.pinned (OpenSpec.upto ivfListsSpec)

/-- 'theodolitelaw09.IvfWhole', WHERE WHAT IT READS IS OF BULK AT MOST 1048576: true; the input reads as it did. -/
def ivfWholeUptoRow : OpenClaim := { program := "ytljbcihbgeiacaagreat", sum := "e5aa3673cbedbbbebf1a12597018144f717f72ad4faeb220735563e5eb40eb1f", func := "theodolite/theodolitelaw09.IvfWhole", spec := "ivfWhole", inPlace := ["math/bits.Add64"], unfollowed := true, recurses := true, apart := false, narrowed := true }
def IvfWholeUptoSaid : Prop := ivfWholeUptoRow.holds Tryz.pinned (OpenSpec.upto ivfWholeSpec)

/-- 'theodolitelaw09.IvfSure', WHERE WHAT IT READS IS OF BULK AT MOST 1048576: true; the input reads as it did. -/
def ivfSureUptoRow : OpenClaim := { program := "ytljbcihbgeiacaagreat", sum := "e5aa3673cbedbbbebf1a12597018144f717f72ad4faeb220735563e5eb40eb1f", func := "theodolite/theodolitelaw09.IvfSure", spec := "ivfSure", inPlace := ["math/bits.Add64"], unfollowed := true, recurses := true, apart := false, narrowed := true }
def IvfSureUptoSaid : Prop := ivfSureUptoRow.holds Tryz.pinned (OpenSpec.upto ivfSureSpec)

/-- 'theodolitelaw09.IvfNearest', WHERE WHAT IT READS IS OF BULK AT MOST 1048576: true; the input reads as it did. -/
def ivfNearestUptoRow : OpenClaim := { program := "ytljbcihbgeiacaagreat", sum := "e5aa3673cbedbbbebf1a12597018144f717f72ad4faeb220735563e5eb40eb1f", func := "theodolite/theodolitelaw09.IvfNearest", spec := "ivfNearest", inPlace := ["math/bits.Add64"], unfollowed := true, recurses := true, apart := false, narrowed := true }
def IvfNearestUptoSaid : Prop := ivfNearestUptoRow.holds Tryz.pinned (OpenSpec.upto ivfNearestSpec)

end Rows
end Go.Proofs.YtljbcihbgeiacaaGreat
