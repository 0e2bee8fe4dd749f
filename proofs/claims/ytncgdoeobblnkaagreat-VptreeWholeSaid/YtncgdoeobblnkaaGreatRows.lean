/-
  No cell of these rows narrows 'for every input' (looked for: loops, veiled, ifaces, maps, wideKeys, modest, calm, conditions, laid).
  DERIVED. THE GIVEN ROWS OF THIS SEAT. 7 by the template 'for every input the law returns true; each argument reads behind the call as it read before'; 0 by the template 'total and deterministic' (their statements: YtncgdoeobblnkaaGreatTotals.lean).
  GIVEN WITH THE SEED: the statements are not yours to turn. If you find one false, say at which input.
  Laid BY PROGRAM, IN A SANDBOX (cutbox-rows.mjs): the forced cells as the released guide's own fill.sh prints them over the translation 1fea2b032bfd81f6… (all of the seat's roots in one cut). By AI agents, Wed Nov 11 2026. No macro, syntax, notation, axiom, sorry.
-/
import Derived.Test.YtncgdoeobblnkaaGreatChecked
import GoSem.Claim
import GoSem.ClaimJoined
import GoSem.ClaimMapViews
import Derived.JoinedTies
import Derived.KernelRfl
namespace Go.Proofs.YtncgdoeobblnkaaGreat
/- THE CELL 'sum', in the pinned program and in every row, IS THE sha256 OF THE DUMP (.gsa) THAT YtncgdoeobblnkaaGreatProg.lean LOADS. Nothing in Lean hashes anything: it is a label: what it is worth is what the hold of that sum in a sandbox is worth. -/
noncomputable def Tryz.pinned : Pinned := { name := "ytncgdoeobblnkaagreat", sum := "1fea2b032bfd81f6ca2b9dfd4dcca4736dd8516b977e7316e74ae453ac2ec215", checked := Tryz.checked }
namespace Rows
def none {H : Type} : Left H := { results := [], args := [] }

/-- 'theodolitelaw08.VptreeBuild': WHATEVER THE INPUT: true; the input reads as it did. -/
def vptreeBuildSpec : ChangeSpec := { name := "vptreeBuild", fn := fun _ => fun
  | [d1, d2, d3] => { results := [.lit (.bool true)], args := [d1, d2, d3] }
  | _ => none }
def vptreeBuildRow : OpenClaim := { program := "ytncgdoeobblnkaagreat", sum := "1fea2b032bfd81f6ca2b9dfd4dcca4736dd8516b977e7316e74ae453ac2ec215", func := "theodolite/theodolitelaw08.VptreeBuild", spec := "vptreeBuild", inPlace := ["math/bits.Add64"], unfollowed := true, recurses := true, apart := false }
def VptreeBuildSaid : Prop := vptreeBuildRow.holds Tryz.pinned (OpenSpec.ofChange vptreeBuildSpec)

/-- ITS FALSE NEIGHBOUR: 'it returns false'. Refute it at one input. -/
def vptreeBuildWrong : ChangeSpec := { name := "vptreeBuild", fn := fun _ => fun
  | [d1, d2, d3] => { results := [.lit (.bool false)], args := [d1, d2, d3] }
  | _ => none }
def VptreeBuildWrongFalsely : Prop := vptreeBuildRow.holds Tryz.pinned (OpenSpec.ofChange vptreeBuildWrong)

/-- 'theodolitelaw08.VptreeRuns': WHATEVER THE INPUT: true; the input reads as it did. -/
def vptreeRunsSpec : ChangeSpec := { name := "vptreeRuns", fn := fun _ => fun
  | [d1, d2, d3, d4] => { results := [.lit (.bool true)], args := [d1, d2, d3, d4] }
  | _ => none }
def vptreeRunsRow : OpenClaim := { program := "ytncgdoeobblnkaagreat", sum := "1fea2b032bfd81f6ca2b9dfd4dcca4736dd8516b977e7316e74ae453ac2ec215", func := "theodolite/theodolitelaw08.VptreeRuns", spec := "vptreeRuns", inPlace := ["math/bits.Add64"], unfollowed := true, recurses := true, apart := false }
def VptreeRunsSaid : Prop := vptreeRunsRow.holds Tryz.pinned (OpenSpec.ofChange vptreeRunsSpec)

/-- ITS FALSE NEIGHBOUR: 'it returns false'. Refute it at one input. -/
def vptreeRunsWrong : ChangeSpec := { name := "vptreeRuns", fn := fun _ => fun
  | [d1, d2, d3, d4] => { results := [.lit (.bool false)], args := [d1, d2, d3, d4] }
  | _ => none }
def VptreeRunsWrongFalsely : Prop := vptreeRunsRow.holds Tryz.pinned (OpenSpec.ofChange vptreeRunsWrong)

/-- 'theodolitelaw08.VptreeBuilt': WHATEVER THE INPUT: true; the input reads as it did. -/
def vptreeBuiltSpec : ChangeSpec := { name := "vptreeBuilt", fn := fun _ => fun
  | [d1, d2, d3, d4, d5] => { results := [.lit (.bool true)], args := [d1, d2, d3, d4, d5] }
  | _ => none }
def vptreeBuiltRow : OpenClaim := { program := "ytncgdoeobblnkaagreat", sum := "1fea2b032bfd81f6ca2b9dfd4dcca4736dd8516b977e7316e74ae453ac2ec215", func := "theodolite/theodolitelaw08.VptreeBuilt", spec := "vptreeBuilt", inPlace := ["math/bits.Add64"], unfollowed := true, recurses := true, apart := false }
def VptreeBuiltSaid : Prop := vptreeBuiltRow.holds Tryz.pinned (OpenSpec.ofChange vptreeBuiltSpec)

/-- ITS FALSE NEIGHBOUR: 'it returns false'. Refute it at one input. -/
def vptreeBuiltWrong : ChangeSpec := { name := "vptreeBuilt", fn := fun _ => fun
  | [d1, d2, d3, d4, d5] => { results := [.lit (.bool false)], args := [d1, d2, d3, d4, d5] }
  | _ => none }
def VptreeBuiltWrongFalsely : Prop := vptreeBuiltRow.holds Tryz.pinned (OpenSpec.ofChange vptreeBuiltWrong)

/-- 'theodolitelaw08.VptreeNil': WHATEVER THE INPUT: true; the input reads as it did. -/
def vptreeNilSpec : ChangeSpec := { name := "vptreeNil", fn := fun _ => fun
  | [d] => { results := [.lit (.bool true)], args := [d] }
  | _ => none }
def vptreeNilRow : OpenClaim := { program := "ytncgdoeobblnkaagreat", sum := "1fea2b032bfd81f6ca2b9dfd4dcca4736dd8516b977e7316e74ae453ac2ec215", func := "theodolite/theodolitelaw08.VptreeNil", spec := "vptreeNil", inPlace := ["math/bits.Add64"], unfollowed := true, recurses := true, apart := false }
def VptreeNilSaid : Prop := vptreeNilRow.holds Tryz.pinned (OpenSpec.ofChange vptreeNilSpec)

/-- ITS FALSE NEIGHBOUR: 'it returns false'. Refute it at one input. -/
def vptreeNilWrong : ChangeSpec := { name := "vptreeNil", fn := fun _ => fun
  | [d] => { results := [.lit (.bool false)], args := [d] }
  | _ => none }
def VptreeNilWrongFalsely : Prop := vptreeNilRow.holds Tryz.pinned (OpenSpec.ofChange vptreeNilWrong)

/-- 'theodolitelaw08.VptreeEmpty': WHATEVER THE INPUT: true; the input reads as it did. -/
def vptreeEmptySpec : ChangeSpec := { name := "vptreeEmpty", fn := fun _ => fun
  | [d1, d2, d3, d4, d5, d6] => { results := [.lit (.bool true)], args := [d1, d2, d3, d4, d5, d6] }
  | _ => none }
def vptreeEmptyRow : OpenClaim := { program := "ytncgdoeobblnkaagreat", sum := "1fea2b032bfd81f6ca2b9dfd4dcca4736dd8516b977e7316e74ae453ac2ec215", func := "theodolite/theodolitelaw08.VptreeEmpty", spec := "vptreeEmpty", inPlace := ["math/bits.Add64"], unfollowed := true, recurses := true, apart := false }
def VptreeEmptySaid : Prop := vptreeEmptyRow.holds Tryz.pinned (OpenSpec.ofChange vptreeEmptySpec)

/-- ITS FALSE NEIGHBOUR: 'it returns false'. Refute it at one input. -/
def vptreeEmptyWrong : ChangeSpec := { name := "vptreeEmpty", fn := fun _ => fun
  | [d1, d2, d3, d4, d5, d6] => { results := [.lit (.bool false)], args := [d1, d2, d3, d4, d5, d6] }
  | _ => none }
def VptreeEmptyWrongFalsely : Prop := vptreeEmptyRow.holds Tryz.pinned (OpenSpec.ofChange vptreeEmptyWrong)

/-- 'theodolitelaw08.VptreeWhole': WHATEVER THE INPUT: true; the input reads as it did. -/
def vptreeWholeSpec : ChangeSpec := { name := "vptreeWhole", fn := fun _ => fun
  | [d1, d2, d3, d4, d5] => { results := [.lit (.bool true)], args := [d1, d2, d3, d4, d5] }
  | _ => none }
def vptreeWholeRow : OpenClaim := { program := "ytncgdoeobblnkaagreat", sum := "1fea2b032bfd81f6ca2b9dfd4dcca4736dd8516b977e7316e74ae453ac2ec215", func := "theodolite/theodolitelaw08.VptreeWhole", spec := "vptreeWhole", inPlace := ["math/bits.Add64"], unfollowed := true, recurses := true, apart := false }
def VptreeWholeSaid : Prop := vptreeWholeRow.holds Tryz.pinned (OpenSpec.ofChange vptreeWholeSpec)

/-- ITS FALSE NEIGHBOUR: 'it returns false'. Refute it at one input. -/
def vptreeWholeWrong : ChangeSpec := { name := "vptreeWhole", fn := fun _ => fun
  | [d1, d2, d3, d4, d5] => { results := [.lit (.bool false)], args := [d1, d2, d3, d4, d5] }
  | _ => none }
def VptreeWholeWrongFalsely : Prop := vptreeWholeRow.holds Tryz.pinned (OpenSpec.ofChange vptreeWholeWrong)

/-- 'theodolitelaw08.VptreeSure': WHATEVER THE INPUT: true; the input reads as it did. -/
def vptreeSureSpec : ChangeSpec := { name := "vptreeSure", fn := fun _ => fun
  | [d1, d2, d3, d4, d5, d6] => { results := [.lit (.bool true)], args := [d1, d2, d3, d4, d5, d6] }
  | _ => none }
def vptreeSureRow : OpenClaim := { program := "ytncgdoeobblnkaagreat", sum := "1fea2b032bfd81f6ca2b9dfd4dcca4736dd8516b977e7316e74ae453ac2ec215", func := "theodolite/theodolitelaw08.VptreeSure", spec := "vptreeSure", inPlace := ["math/bits.Add64"], unfollowed := true, recurses := true, apart := false }
def VptreeSureSaid : Prop := vptreeSureRow.holds Tryz.pinned (OpenSpec.ofChange vptreeSureSpec)

/-- ITS FALSE NEIGHBOUR: 'it returns false'. Refute it at one input. -/
def vptreeSureWrong : ChangeSpec := { name := "vptreeSure", fn := fun _ => fun
  | [d1, d2, d3, d4, d5, d6] => { results := [.lit (.bool false)], args := [d1, d2, d3, d4, d5, d6] }
  | _ => none }
def VptreeSureWrongFalsely : Prop := vptreeSureRow.holds Tryz.pinned (OpenSpec.ofChange vptreeSureWrong)

/- THE SECOND FORM. 'bulk': how many values and letters a reading holds, each counted each time it is reached (what is shared counts as often as it is met; a slice's spare places count too). A statement '..UptoSaid' is the law's where the arguments, and the package variables that the reading takes, are together of bulk at most 1048576: NARROWER than '..Said'. Prove '..Said' where nothing that the law and all that it calls make is longer than what came in: it says more and counts as full. Else prove '..UptoSaid'. A law counts once. -/
mutual
def uptoBulk {H : Type} : DataW H → Nat
  | .lit (.string bytes) => bytes.length + 1
  | .lit _ => 1
  | .nil => 1
  | .ptr d => uptoBulk d + 1
  | .slice elems spare => uptoBulkAll elems + uptoBulkAll spare + 1
  | .agg parts => uptoBulkAll parts + 1
  | .iface _ d => uptoBulk d + 1
  | .map entries => uptoBulkEntries entries + 1
  | .held _ => 1
def uptoBulkAll {H : Type} : List (DataW H) → Nat
  | [] => 0
  | d :: r => uptoBulk d + uptoBulkAll r
def uptoBulkEntries {H : Type} : List (Lit × DataW H) → Nat
  | [] => 0
  | x :: r => uptoBulkEntry x + uptoBulkEntries r
def uptoBulkEntry {H : Type} : Lit × DataW H → Nat
  | (.string bytes, d) => bytes.length + uptoBulk d + 1
  | (_, d) => uptoBulk d + 1
 end
def uptoSmall : (H : Type) → List (DataW H) → Bool := fun _ ds => decide (uptoBulkAll ds ≤ 1048576)
def OpenSpec.upto (s : _root_.Go.ChangeSpec) : _root_.Go.OpenSpec := { _root_.Go.OpenSpec.ofChange s with cond := some uptoSmall }

/-- 'theodolitelaw08.VptreeBuild', WHERE WHAT IT READS IS OF BULK AT MOST 1048576: true; the input reads as it did. -/
def vptreeBuildUptoRow : OpenClaim := { program := "ytncgdoeobblnkaagreat", sum := "1fea2b032bfd81f6ca2b9dfd4dcca4736dd8516b977e7316e74ae453ac2ec215", func := "theodolite/theodolitelaw08.VptreeBuild", spec := "vptreeBuild", inPlace := ["math/bits.Add64"], unfollowed := true, recurses := true, apart := false, narrowed := true }
def VptreeBuildUptoSaid : Prop := vptreeBuildUptoRow.holds Tryz.pinned (OpenSpec.upto vptreeBuildSpec)

/-- 'theodolitelaw08.VptreeRuns', WHERE WHAT IT READS IS OF BULK AT MOST 1048576: true; the input reads as it did. -/
def vptreeRunsUptoRow : OpenClaim := { program := "ytncgdoeobblnkaagreat", sum := "1fea2b032bfd81f6ca2b9dfd4dcca4736dd8516b977e7316e74ae453ac2ec215", func := "theodolite/theodolitelaw08.VptreeRuns", spec := "vptreeRuns", inPlace := ["math/bits.Add64"], unfollowed := true, recurses := true, apart := false, narrowed := true }
def VptreeRunsUptoSaid : Prop := vptreeRunsUptoRow.holds Tryz.pinned (OpenSpec.upto vptreeRunsSpec)

/-- 'theodolitelaw08.VptreeBuilt', WHERE WHAT IT READS IS OF BULK AT MOST 1048576: true; the input reads as it did. -/
def vptreeBuiltUptoRow : OpenClaim := { program := "ytncgdoeobblnkaagreat", sum := "1fea2b032bfd81f6ca2b9dfd4dcca4736dd8516b977e7316e74ae453ac2ec215", func := "theodolite/theodolitelaw08.VptreeBuilt", spec := "vptreeBuilt", inPlace := ["math/bits.Add64"], unfollowed := true, recurses := true, apart := false, narrowed := true }
def VptreeBuiltUptoSaid : Prop := vptreeBuiltUptoRow.holds Tryz.pinned (OpenSpec.upto vptreeBuiltSpec)

/-- 'theodolitelaw08.VptreeNil', WHERE WHAT IT READS IS OF BULK AT MOST 1048576: true; the input reads as it did. -/
def vptreeNilUptoRow : OpenClaim := { program := "ytncgdoeobblnkaagreat", sum := "1fea2b032bfd81f6ca2b9dfd4dcca4736dd8516b977e7316e74ae453ac2ec215", func := "theodolite/theodolitelaw08.VptreeNil", spec := "vptreeNil", inPlace := ["math/bits.Add64"], unfollowed := true, recurses := true, apart := false, narrowed := true }
def VptreeNilUptoSaid : Prop := vptreeNilUptoRow.holds Tryz.pinned (OpenSpec.upto vptreeNilSpec)

/-- 'theodolitelaw08.VptreeEmpty', WHERE WHAT IT READS IS OF BULK AT MOST 1048576: true; the input reads as it did. -/
def vptreeEmptyUptoRow : OpenClaim := { program := "ytncgdoeobblnkaagreat", sum := "1fea2b032bfd81f6ca2b9dfd4dcca4736dd8516b977e7316e74ae453ac2ec215", func := "theodolite/theodolitelaw08.VptreeEmpty", spec := "vptreeEmpty", inPlace := ["math/bits.Add64"], unfollowed := true, recurses := true, apart := false, narrowed := true }
def VptreeEmptyUptoSaid : Prop := vptreeEmptyUptoRow.holds Tryz.pinned (OpenSpec.upto vptreeEmptySpec)

/-- 'theodolitelaw08.VptreeWhole', WHERE WHAT IT READS IS OF BULK AT MOST 1048576: true; the input reads as it did. -/
def vptreeWholeUptoRow : OpenClaim := { program := "ytncgdoeobblnkaagreat", sum := "1fea2b032bfd81f6ca2b9dfd4dcca4736dd8516b977e7316e74ae453ac2ec215", func := "theodolite/theodolitelaw08.VptreeWhole", spec := "vptreeWhole", inPlace := ["math/bits.Add64"], unfollowed := true, recurses := true, apart := false, narrowed := true }
def VptreeWholeUptoSaid : Prop := vptreeWholeUptoRow.holds Tryz.pinned (OpenSpec.upto vptreeWholeSpec)

/-- 'theodolitelaw08.VptreeSure', WHERE WHAT IT READS IS OF BULK AT MOST 1048576: true; the input reads as it did. -/
def vptreeSureUptoRow : OpenClaim := { program := "ytncgdoeobblnkaagreat", sum := "1fea2b032bfd81f6ca2b9dfd4dcca4736dd8516b977e7316e74ae453ac2ec215", func := "theodolite/theodolitelaw08.VptreeSure", spec := "vptreeSure", inPlace := ["math/bits.Add64"], unfollowed := true, recurses := true, apart := false, narrowed := true }
def VptreeSureUptoSaid : Prop := vptreeSureUptoRow.holds Tryz.pinned (OpenSpec.upto vptreeSureSpec)

end Rows
end Go.Proofs.YtncgdoeobblnkaaGreat
