/-
  No cell of these rows narrows 'for every input' (looked for: loops, veiled, ifaces, maps, wideKeys, modest, calm, conditions, laid).
  DERIVED. THE GIVEN ROWS OF THIS SEAT. 7 by the template 'for every input the law returns true; each argument reads behind the call as it read before'; 0 by the template 'total and deterministic' (their statements: YtncninpdlpemgaaGreatTotals.lean).
  GIVEN WITH THE SEED: the statements are not yours to turn. If you find one false, say at which input.
  Laid BY PROGRAM, IN A SANDBOX (cutbox-rows.mjs): the forced cells as the released guide's own fill.sh prints them over the translation bc7548d433373caf… (all of the seat's roots in one cut). By AI agents, Wed Nov 11 2026. No macro, syntax, notation, axiom, sorry.
-/
import Derived.Test.YtncninpdlpemgaaGreatChecked
import GoSem.Claim
import GoSem.ClaimJoined
import GoSem.ClaimMapViews
import Derived.JoinedTies
import Derived.KernelRfl
namespace Go.Proofs.YtncninpdlpemgaaGreat
/- THE CELL 'sum', in the pinned program and in every row, IS THE sha256 OF THE DUMP (.gsa) THAT YtncninpdlpemgaaGreatProg.lean LOADS. Nothing in Lean hashes anything: it is a label: what it is worth is what the hold of that sum in a sandbox is worth. -/
noncomputable def Tryz.pinned : Pinned := { name := "ytncninpdlpemgaagreat", sum := "bc7548d433373cafd2b83879c534f3f74f3914195348ccdd988e3b0b14e65462", checked := Tryz.checked }
namespace Rows
def none {H : Type} : Left H := { results := [], args := [] }

/-- 'theodolitelaw07.KdtreeBuild': WHATEVER THE INPUT: true; the input reads as it did. -/
def kdtreeBuildSpec : ChangeSpec := { name := "kdtreeBuild", fn := fun _ => fun
  | [d1, d2, d3] => { results := [.lit (.bool true)], args := [d1, d2, d3] }
  | _ => none }
def kdtreeBuildRow : OpenClaim := { program := "ytncninpdlpemgaagreat", sum := "bc7548d433373cafd2b83879c534f3f74f3914195348ccdd988e3b0b14e65462", func := "theodolite/theodolitelaw07.KdtreeBuild", spec := "kdtreeBuild", inPlace := ["math/bits.Add64"], unfollowed := true, recurses := true, apart := false }
def KdtreeBuildSaid : Prop := kdtreeBuildRow.holds Tryz.pinned (OpenSpec.ofChange kdtreeBuildSpec)

/-- ITS FALSE NEIGHBOUR: 'it returns false'. Refute it at one input. -/
def kdtreeBuildWrong : ChangeSpec := { name := "kdtreeBuild", fn := fun _ => fun
  | [d1, d2, d3] => { results := [.lit (.bool false)], args := [d1, d2, d3] }
  | _ => none }
def KdtreeBuildWrongFalsely : Prop := kdtreeBuildRow.holds Tryz.pinned (OpenSpec.ofChange kdtreeBuildWrong)

/-- 'theodolitelaw07.KdtreeRuns': WHATEVER THE INPUT: true; the input reads as it did. -/
def kdtreeRunsSpec : ChangeSpec := { name := "kdtreeRuns", fn := fun _ => fun
  | [d1, d2, d3, d4] => { results := [.lit (.bool true)], args := [d1, d2, d3, d4] }
  | _ => none }
def kdtreeRunsRow : OpenClaim := { program := "ytncninpdlpemgaagreat", sum := "bc7548d433373cafd2b83879c534f3f74f3914195348ccdd988e3b0b14e65462", func := "theodolite/theodolitelaw07.KdtreeRuns", spec := "kdtreeRuns", inPlace := ["math/bits.Add64"], unfollowed := true, recurses := true, apart := false }
def KdtreeRunsSaid : Prop := kdtreeRunsRow.holds Tryz.pinned (OpenSpec.ofChange kdtreeRunsSpec)

/-- ITS FALSE NEIGHBOUR: 'it returns false'. Refute it at one input. -/
def kdtreeRunsWrong : ChangeSpec := { name := "kdtreeRuns", fn := fun _ => fun
  | [d1, d2, d3, d4] => { results := [.lit (.bool false)], args := [d1, d2, d3, d4] }
  | _ => none }
def KdtreeRunsWrongFalsely : Prop := kdtreeRunsRow.holds Tryz.pinned (OpenSpec.ofChange kdtreeRunsWrong)

/-- 'theodolitelaw07.KdtreeBuilt': WHATEVER THE INPUT: true; the input reads as it did. -/
def kdtreeBuiltSpec : ChangeSpec := { name := "kdtreeBuilt", fn := fun _ => fun
  | [d1, d2, d3, d4, d5] => { results := [.lit (.bool true)], args := [d1, d2, d3, d4, d5] }
  | _ => none }
def kdtreeBuiltRow : OpenClaim := { program := "ytncninpdlpemgaagreat", sum := "bc7548d433373cafd2b83879c534f3f74f3914195348ccdd988e3b0b14e65462", func := "theodolite/theodolitelaw07.KdtreeBuilt", spec := "kdtreeBuilt", inPlace := ["math/bits.Add64"], unfollowed := true, recurses := true, apart := false }
def KdtreeBuiltSaid : Prop := kdtreeBuiltRow.holds Tryz.pinned (OpenSpec.ofChange kdtreeBuiltSpec)

/-- ITS FALSE NEIGHBOUR: 'it returns false'. Refute it at one input. -/
def kdtreeBuiltWrong : ChangeSpec := { name := "kdtreeBuilt", fn := fun _ => fun
  | [d1, d2, d3, d4, d5] => { results := [.lit (.bool false)], args := [d1, d2, d3, d4, d5] }
  | _ => none }
def KdtreeBuiltWrongFalsely : Prop := kdtreeBuiltRow.holds Tryz.pinned (OpenSpec.ofChange kdtreeBuiltWrong)

/-- 'theodolitelaw07.KdtreeNil': WHATEVER THE INPUT: true; the input reads as it did. -/
def kdtreeNilSpec : ChangeSpec := { name := "kdtreeNil", fn := fun _ => fun
  | [d] => { results := [.lit (.bool true)], args := [d] }
  | _ => none }
def kdtreeNilRow : OpenClaim := { program := "ytncninpdlpemgaagreat", sum := "bc7548d433373cafd2b83879c534f3f74f3914195348ccdd988e3b0b14e65462", func := "theodolite/theodolitelaw07.KdtreeNil", spec := "kdtreeNil", inPlace := ["math/bits.Add64"], unfollowed := true, recurses := true, apart := false }
def KdtreeNilSaid : Prop := kdtreeNilRow.holds Tryz.pinned (OpenSpec.ofChange kdtreeNilSpec)

/-- ITS FALSE NEIGHBOUR: 'it returns false'. Refute it at one input. -/
def kdtreeNilWrong : ChangeSpec := { name := "kdtreeNil", fn := fun _ => fun
  | [d] => { results := [.lit (.bool false)], args := [d] }
  | _ => none }
def KdtreeNilWrongFalsely : Prop := kdtreeNilRow.holds Tryz.pinned (OpenSpec.ofChange kdtreeNilWrong)

/-- 'theodolitelaw07.KdtreeEmpty': WHATEVER THE INPUT: true; the input reads as it did. -/
def kdtreeEmptySpec : ChangeSpec := { name := "kdtreeEmpty", fn := fun _ => fun
  | [d1, d2, d3, d4, d5, d6] => { results := [.lit (.bool true)], args := [d1, d2, d3, d4, d5, d6] }
  | _ => none }
def kdtreeEmptyRow : OpenClaim := { program := "ytncninpdlpemgaagreat", sum := "bc7548d433373cafd2b83879c534f3f74f3914195348ccdd988e3b0b14e65462", func := "theodolite/theodolitelaw07.KdtreeEmpty", spec := "kdtreeEmpty", inPlace := ["math/bits.Add64"], unfollowed := true, recurses := true, apart := false }
def KdtreeEmptySaid : Prop := kdtreeEmptyRow.holds Tryz.pinned (OpenSpec.ofChange kdtreeEmptySpec)

/-- ITS FALSE NEIGHBOUR: 'it returns false'. Refute it at one input. -/
def kdtreeEmptyWrong : ChangeSpec := { name := "kdtreeEmpty", fn := fun _ => fun
  | [d1, d2, d3, d4, d5, d6] => { results := [.lit (.bool false)], args := [d1, d2, d3, d4, d5, d6] }
  | _ => none }
def KdtreeEmptyWrongFalsely : Prop := kdtreeEmptyRow.holds Tryz.pinned (OpenSpec.ofChange kdtreeEmptyWrong)

/-- 'theodolitelaw07.KdtreeWhole': WHATEVER THE INPUT: true; the input reads as it did. -/
def kdtreeWholeSpec : ChangeSpec := { name := "kdtreeWhole", fn := fun _ => fun
  | [d1, d2, d3, d4, d5] => { results := [.lit (.bool true)], args := [d1, d2, d3, d4, d5] }
  | _ => none }
def kdtreeWholeRow : OpenClaim := { program := "ytncninpdlpemgaagreat", sum := "bc7548d433373cafd2b83879c534f3f74f3914195348ccdd988e3b0b14e65462", func := "theodolite/theodolitelaw07.KdtreeWhole", spec := "kdtreeWhole", inPlace := ["math/bits.Add64"], unfollowed := true, recurses := true, apart := false }
def KdtreeWholeSaid : Prop := kdtreeWholeRow.holds Tryz.pinned (OpenSpec.ofChange kdtreeWholeSpec)

/-- ITS FALSE NEIGHBOUR: 'it returns false'. Refute it at one input. -/
def kdtreeWholeWrong : ChangeSpec := { name := "kdtreeWhole", fn := fun _ => fun
  | [d1, d2, d3, d4, d5] => { results := [.lit (.bool false)], args := [d1, d2, d3, d4, d5] }
  | _ => none }
def KdtreeWholeWrongFalsely : Prop := kdtreeWholeRow.holds Tryz.pinned (OpenSpec.ofChange kdtreeWholeWrong)

/-- 'theodolitelaw07.KdtreeSure': WHATEVER THE INPUT: true; the input reads as it did. -/
def kdtreeSureSpec : ChangeSpec := { name := "kdtreeSure", fn := fun _ => fun
  | [d1, d2, d3, d4, d5, d6] => { results := [.lit (.bool true)], args := [d1, d2, d3, d4, d5, d6] }
  | _ => none }
def kdtreeSureRow : OpenClaim := { program := "ytncninpdlpemgaagreat", sum := "bc7548d433373cafd2b83879c534f3f74f3914195348ccdd988e3b0b14e65462", func := "theodolite/theodolitelaw07.KdtreeSure", spec := "kdtreeSure", inPlace := ["math/bits.Add64"], unfollowed := true, recurses := true, apart := false }
def KdtreeSureSaid : Prop := kdtreeSureRow.holds Tryz.pinned (OpenSpec.ofChange kdtreeSureSpec)

/-- ITS FALSE NEIGHBOUR: 'it returns false'. Refute it at one input. -/
def kdtreeSureWrong : ChangeSpec := { name := "kdtreeSure", fn := fun _ => fun
  | [d1, d2, d3, d4, d5, d6] => { results := [.lit (.bool false)], args := [d1, d2, d3, d4, d5, d6] }
  | _ => none }
def KdtreeSureWrongFalsely : Prop := kdtreeSureRow.holds Tryz.pinned (OpenSpec.ofChange kdtreeSureWrong)

/- THE SECOND FORM. 'bulk': how many values and letters a reading holds, each counted each time it is reached (what is shared counts as often as it is met; a slice's spare places count too). A statement '..UptoSaid' is the law's where the arguments, and the package variables that the reading takes, are together of bulk at most 1048576: NARROWER than '..Said'. Prove '..Said' where nothing that the law and all that it calls make is longer than what came in: it says more and counts as full. Else prove '..UptoSaid'. A law counts once. -/
mutual
def uptoBulk {H : Type} : DataW H → Nat
  | .lit (.string bytes) => bytes.length + 1
  | .lit _ => 1
  | .nil => 1
  | .ptr d => uptoBulk d + 1
  | .slice elems spare => uptoBulkAll elems + uptoBulkAll spare + 1
  | .agg parts => uptoBulkAll parts + 1
  | .iface _ d => uptoBulk d + 1
  | .map entries => uptoBulkEntries entries + 1
  | .held _ => 1
def uptoBulkAll {H : Type} : List (DataW H) → Nat
  | [] => 0
  | d :: r => uptoBulk d + uptoBulkAll r
def uptoBulkEntries {H : Type} : List (Lit × DataW H) → Nat
  | [] => 0
  | x :: r => uptoBulkEntry x + uptoBulkEntries r
def uptoBulkEntry {H : Type} : Lit × DataW H → Nat
  | (.string bytes, d) => bytes.length + uptoBulk d + 1
  | (_, d) => uptoBulk d + 1
 end
def uptoSmall : (H : Type) → List (DataW H) → Bool := fun _ ds => decide (uptoBulkAll ds ≤ 1048576)
def OpenSpec.upto (s : _root_.Go.ChangeSpec) : _root_.Go.OpenSpec := { _root_.Go.OpenSpec.ofChange s with cond := some uptoSmall }

/-- 'theodolitelaw07.KdtreeBuild', WHERE WHAT IT READS IS OF BULK AT MOST 1048576: true; the input reads as it did. -/
def kdtreeBuildUptoRow : OpenClaim := { program := "ytncninpdlpemgaagreat", sum := "bc7548d433373cafd2b83879c534f3f74f3914195348ccdd988e3b0b14e65462", func := "theodolite/theodolitelaw07.KdtreeBuild", spec := "kdtreeBuild", inPlace := ["math/bits.Add64"], unfollowed := true, recurses := true, apart := false, narrowed := true }
def KdtreeBuildUptoSaid : Prop := kdtreeBuildUptoRow.holds Tryz.pinned (OpenSpec.upto kdtreeBuildSpec)

/-- 'theodolitelaw07.KdtreeRuns', WHERE WHAT IT READS IS OF BULK AT MOST 1048576: true; the input reads as it did. -/
def kdtreeRunsUptoRow : OpenClaim := { program := "ytncninpdlpemgaagreat", sum := "bc7548d433373cafd2b83879c534f3f74f3914195348ccdd988e3b0b14e65462", func := "theodolite/theodolitelaw07.KdtreeRuns", spec := "kdtreeRuns", inPlace := ["math/bits.Add64"], unfollowed := true, recurses := true, apart := false, narrowed := true }
def KdtreeRunsUptoSaid : Prop := kdtreeRunsUptoRow.holds Tryz.pinned (OpenSpec.upto kdtreeRunsSpec)

/-- 'theodolitelaw07.KdtreeBuilt', WHERE WHAT IT READS IS OF BULK AT MOST 1048576: true; the input reads as it did. -/
def kdtreeBuiltUptoRow : OpenClaim := { program := "ytncninpdlpemgaagreat", sum := "bc7548d433373cafd2b83879c534f3f74f3914195348ccdd988e3b0b14e65462", func := "theodolite/theodolitelaw07.KdtreeBuilt", spec := "kdtreeBuilt", inPlace := ["math/bits.Add64"], unfollowed := true, recurses := true, apart := false, narrowed := true }
def KdtreeBuiltUptoSaid : Prop := kdtreeBuiltUptoRow.holds Tryz.pinned (OpenSpec.upto kdtreeBuiltSpec)

/-- 'theodolitelaw07.KdtreeNil', WHERE WHAT IT READS IS OF BULK AT MOST 1048576: true; the input reads as it did. -/
def kdtreeNilUptoRow : OpenClaim := { program := "ytncninpdlpemgaagreat", sum := "bc7548d433373cafd2b83879c534f3f74f3914195348ccdd988e3b0b14e65462", func := "theodolite/theodolitelaw07.KdtreeNil", spec := "kdtreeNil", inPlace := ["math/bits.Add64"], unfollowed := true, recurses := true, apart := false, narrowed := true }
def KdtreeNilUptoSaid : Prop := kdtreeNilUptoRow.holds Tryz.pinned (OpenSpec.upto kdtreeNilSpec)

/-- 'theodolitelaw07.KdtreeEmpty', WHERE WHAT IT READS IS OF BULK AT MOST 1048576: true; the input reads as it did. -/
def kdtreeEmptyUptoRow : OpenClaim := { program := "ytncninpdlpemgaagreat", sum := "bc7548d433373cafd2b83879c534f3f74f3914195348ccdd988e3b0b14e65462", func := "theodolite/theodolitelaw07.KdtreeEmpty", spec := "kdtreeEmpty", inPlace := ["math/bits.Add64"], unfollowed := true, recurses := true, apart := false, narrowed := true }
def KdtreeEmptyUptoSaid : Prop := kdtreeEmptyUptoRow.holds Tryz.pinned (OpenSpec.upto kdtreeEmptySpec)

/-- 'theodolitelaw07.KdtreeWhole', WHERE WHAT IT READS IS OF BULK AT MOST 1048576: true; the input reads as it did. -/
def kdtreeWholeUptoRow : OpenClaim := { program := "ytncninpdlpemgaagreat", sum := "bc7548d433373cafd2b83879c534f3f74f3914195348ccdd988e3b0b14e65462", func := "theodolite/theodolitelaw07.KdtreeWhole", spec := "kdtreeWhole", inPlace := ["math/bits.Add64"], unfollowed := true, recurses := true, apart := false, narrowed := true }
def KdtreeWholeUptoSaid : Prop := kdtreeWholeUptoRow.holds Tryz.pinned (OpenSpec.upto kdtreeWholeSpec)

/-- 'theodolitelaw07.KdtreeSure', WHERE WHAT IT READS IS OF BULK AT MOST 1048576: true; the input reads as it did. -/
def kdtreeSureUptoRow : OpenClaim := { program := "ytncninpdlpemgaagreat", sum := "bc7548d433373cafd2b83879c534f3f74f3914195348ccdd988e3b0b14e65462", func := "theodolite/theodolitelaw07.KdtreeSure", spec := "kdtreeSure", inPlace := ["math/bits.Add64"], unfollowed := true, recurses := true, apart := false, narrowed := true }
def KdtreeSureUptoSaid : Prop := kdtreeSureUptoRow.holds Tryz.pinned (OpenSpec.upto kdtreeSureSpec)

end Rows
end Go.Proofs.YtncninpdlpemgaaGreat
