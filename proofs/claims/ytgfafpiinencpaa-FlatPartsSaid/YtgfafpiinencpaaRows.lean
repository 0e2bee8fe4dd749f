/-
  No cell of these rows narrows 'for every input' (looked for: loops, veiled, ifaces, maps, wideKeys, modest, calm, conditions, laid).
  DERIVED. THE GIVEN ROWS OF THIS SEAT. 5 by the template 'for every input the law returns true; each argument reads behind the call as it read before'; 0 by the template 'total and deterministic' (their statements: YtgfafpiinencpaaTotals.lean).
  GIVEN WITH THE SEED: the statements are not yours to turn. If you find one false, say at which input.
  Laid BY PROGRAM, IN A SANDBOX (cutbox-rows.mjs): the forced cells as the released guide's own fill.sh prints them over the translation 49e6c581b5ff8da1… (all of the seat's roots in one cut). By AI agents, Wed Nov 11 2026. No macro, syntax, notation, axiom, sorry.
-/
import Derived.Test.YtgfafpiinencpaaChecked
import GoSem.Claim
import GoSem.ClaimJoined
import GoSem.ClaimMapViews
import Derived.JoinedTies
import Derived.KernelRfl
namespace Go.Proofs.Ytgfafpiinencpaa
/- THE CELL 'sum', in the pinned program and in every row, IS THE sha256 OF THE DUMP (.gsa) THAT YtgfafpiinencpaaProg.lean LOADS. Nothing in Lean hashes anything: it is a label: what it is worth is what the hold of that sum in a sandbox is worth. -/
noncomputable def Try.pinned : Pinned := { name := "ytgfafpiinencpaa", sum := "49e6c581b5ff8da1a17a40988df38c362a04ebb75c29bd7e6c4ac0e8480c4cc7", checked := Try.checked }
namespace Rows
def none {H : Type} : Left H := { results := [], args := [] }

/-- 'theodolitelaw05.FlatRange': WHATEVER THE INPUT: true; the input reads as it did. -/
def flatRangeSpec : ChangeSpec := { name := "flatRange", fn := fun _ => fun
  | [d1, d2, d3] => { results := [.lit (.bool true)], args := [d1, d2, d3] }
  | _ => none }
def flatRangeRow : OpenClaim := { program := "ytgfafpiinencpaa", sum := "49e6c581b5ff8da1a17a40988df38c362a04ebb75c29bd7e6c4ac0e8480c4cc7", func := "theodolite/theodolitelaw05.FlatRange", spec := "flatRange", inPlace := ["math/bits.Add64"], unfollowed := true, recurses := true, apart := false }
def FlatRangeSaid : Prop := flatRangeRow.holds Try.pinned (OpenSpec.ofChange flatRangeSpec)

/-- ITS FALSE NEIGHBOUR: 'it returns false'. Refute it at one input. -/
def flatRangeWrong : ChangeSpec := { name := "flatRange", fn := fun _ => fun
  | [d1, d2, d3] => { results := [.lit (.bool false)], args := [d1, d2, d3] }
  | _ => none }
def FlatRangeWrongFalsely : Prop := flatRangeRow.holds Try.pinned (OpenSpec.ofChange flatRangeWrong)

/-- 'theodolitelaw05.FlatOrder': WHATEVER THE INPUT: true; the input reads as it did. -/
def flatOrderSpec : ChangeSpec := { name := "flatOrder", fn := fun _ => fun
  | [d1, d2, d3, d4] => { results := [.lit (.bool true)], args := [d1, d2, d3, d4] }
  | _ => none }
def flatOrderRow : OpenClaim := { program := "ytgfafpiinencpaa", sum := "49e6c581b5ff8da1a17a40988df38c362a04ebb75c29bd7e6c4ac0e8480c4cc7", func := "theodolite/theodolitelaw05.FlatOrder", spec := "flatOrder", inPlace := ["math/bits.Add64"], unfollowed := true, recurses := true, apart := false }
def FlatOrderSaid : Prop := flatOrderRow.holds Try.pinned (OpenSpec.ofChange flatOrderSpec)

/-- ITS FALSE NEIGHBOUR: 'it returns false'. Refute it at one input. -/
def flatOrderWrong : ChangeSpec := { name := "flatOrder", fn := fun _ => fun
  | [d1, d2, d3, d4] => { results := [.lit (.bool false)], args := [d1, d2, d3, d4] }
  | _ => none }
def FlatOrderWrongFalsely : Prop := flatOrderRow.holds Try.pinned (OpenSpec.ofChange flatOrderWrong)

/-- 'theodolitelaw05.FlatNone': WHATEVER THE INPUT: true; the input reads as it did. -/
def flatNoneSpec : ChangeSpec := { name := "flatNone", fn := fun _ => fun
  | [d1, d2, d3] => { results := [.lit (.bool true)], args := [d1, d2, d3] }
  | _ => none }
def flatNoneRow : OpenClaim := { program := "ytgfafpiinencpaa", sum := "49e6c581b5ff8da1a17a40988df38c362a04ebb75c29bd7e6c4ac0e8480c4cc7", func := "theodolite/theodolitelaw05.FlatNone", spec := "flatNone", inPlace := ["math/bits.Add64"], unfollowed := true, recurses := true, apart := false }
def FlatNoneSaid : Prop := flatNoneRow.holds Try.pinned (OpenSpec.ofChange flatNoneSpec)

/-- ITS FALSE NEIGHBOUR: 'it returns false'. Refute it at one input. -/
def flatNoneWrong : ChangeSpec := { name := "flatNone", fn := fun _ => fun
  | [d1, d2, d3] => { results := [.lit (.bool false)], args := [d1, d2, d3] }
  | _ => none }
def FlatNoneWrongFalsely : Prop := flatNoneRow.holds Try.pinned (OpenSpec.ofChange flatNoneWrong)

/-- 'theodolitelaw05.FlatWhole': WHATEVER THE INPUT: true; the input reads as it did. -/
def flatWholeSpec : ChangeSpec := { name := "flatWhole", fn := fun _ => fun
  | [d1, d2, d3, d4] => { results := [.lit (.bool true)], args := [d1, d2, d3, d4] }
  | _ => none }
def flatWholeRow : OpenClaim := { program := "ytgfafpiinencpaa", sum := "49e6c581b5ff8da1a17a40988df38c362a04ebb75c29bd7e6c4ac0e8480c4cc7", func := "theodolite/theodolitelaw05.FlatWhole", spec := "flatWhole", inPlace := ["math/bits.Add64"], unfollowed := true, recurses := true, apart := false }
def FlatWholeSaid : Prop := flatWholeRow.holds Try.pinned (OpenSpec.ofChange flatWholeSpec)

/-- ITS FALSE NEIGHBOUR: 'it returns false'. Refute it at one input. -/
def flatWholeWrong : ChangeSpec := { name := "flatWhole", fn := fun _ => fun
  | [d1, d2, d3, d4] => { results := [.lit (.bool false)], args := [d1, d2, d3, d4] }
  | _ => none }
def FlatWholeWrongFalsely : Prop := flatWholeRow.holds Try.pinned (OpenSpec.ofChange flatWholeWrong)

/-- 'theodolitelaw05.FlatParts': WHATEVER THE INPUT: true; the input reads as it did. -/
def flatPartsSpec : ChangeSpec := { name := "flatParts", fn := fun _ => fun
  | [d1, d2, d3, d4] => { results := [.lit (.bool true)], args := [d1, d2, d3, d4] }
  | _ => none }
def flatPartsRow : OpenClaim := { program := "ytgfafpiinencpaa", sum := "49e6c581b5ff8da1a17a40988df38c362a04ebb75c29bd7e6c4ac0e8480c4cc7", func := "theodolite/theodolitelaw05.FlatParts", spec := "flatParts", inPlace := ["math/bits.Add64"], unfollowed := true, recurses := true, apart := false }
def FlatPartsSaid : Prop := flatPartsRow.holds Try.pinned (OpenSpec.ofChange flatPartsSpec)

/-- ITS FALSE NEIGHBOUR: 'it returns false'. Refute it at one input. -/
def flatPartsWrong : ChangeSpec := { name := "flatParts", fn := fun _ => fun
  | [d1, d2, d3, d4] => { results := [.lit (.bool false)], args := [d1, d2, d3, d4] }
  | _ => none }
def FlatPartsWrongFalsely : Prop := flatPartsRow.holds Try.pinned (OpenSpec.ofChange flatPartsWrong)

/- THE SECOND FORM. 'bulk': how many values and letters a reading holds, each counted each time it is reached (what is shared counts as often as it is met; a slice's spare places count too). A statement '..UptoSaid' is the law's where the arguments, and the package variables that the reading takes, are together of bulk at most 1048576: NARROWER than '..Said'. Prove '..Said' where nothing that the law and all that it calls make is longer than what came in: it says more and counts as full. Else prove '..UptoSaid'. A law counts once. -/
mutual
def uptoBulk {H : Type} : DataW H → Nat
  | .lit (.string bytes) => bytes.length + 1
  | .lit _ => 1
  | .nil => 1
  | .ptr d => uptoBulk d + 1
  | .slice elems spare => uptoBulkAll elems + uptoBulkAll spare + 1
  | .agg parts => uptoBulkAll parts + 1
  | .iface _ d => uptoBulk d + 1
  | .map entries => uptoBulkEntries entries + 1
  | .held _ => 1
def uptoBulkAll {H : Type} : List (DataW H) → Nat
  | [] => 0
  | d :: r => uptoBulk d + uptoBulkAll r
def uptoBulkEntries {H : Type} : List (Lit × DataW H) → Nat
  | [] => 0
  | x :: r => uptoBulkEntry x + uptoBulkEntries r
def uptoBulkEntry {H : Type} : Lit × DataW H → Nat
  | (.string bytes, d) => bytes.length + uptoBulk d + 1
  | (_, d) => uptoBulk d + 1
 end
def uptoSmall : (H : Type) → List (DataW H) → Bool := fun _ ds => decide (uptoBulkAll ds ≤ 1048576)
def OpenSpec.upto (s : _root_.Go.ChangeSpec) : _root_.Go.OpenSpec := { _root_.Go.OpenSpec.ofChange s with cond := some uptoSmall }

/-- 'theodolitelaw05.FlatRange', WHERE WHAT IT READS IS OF BULK AT MOST 1048576: true; the input reads as it did. -/
def flatRangeUptoRow : OpenClaim := { program := "ytgfafpiinencpaa", sum := "49e6c581b5ff8da1a17a40988df38c362a04ebb75c29bd7e6c4ac0e8480c4cc7", func := "theodolite/theodolitelaw05.FlatRange", spec := "flatRange", inPlace := ["math/bits.Add64"], unfollowed := true, recurses := true, apart := false, narrowed := true }
def FlatRangeUptoSaid : Prop := flatRangeUptoRow.holds Try.pinned (OpenSpec.upto flatRangeSpec)

/-- 'theodolitelaw05.FlatOrder', WHERE WHAT IT READS IS OF BULK AT MOST 1048576: true; the input reads as it did. -/
def flatOrderUptoRow : OpenClaim := { program := "ytgfafpiinencpaa", sum := "49e6c581b5ff8da1a17a40988df38c362a04ebb75c29bd7e6c4ac0e8480c4cc7", func := "theodolite/theodolitelaw05.FlatOrder", spec := "flatOrder", inPlace := ["math/bits.Add64"], unfollowed := true, recurses := true, apart := false, narrowed := true }
def FlatOrderUptoSaid : Prop := flatOrderUptoRow.holds Try.pinned (OpenSpec.upto flatOrderSpec)

/-- 'theodolitelaw05.FlatNone', WHERE WHAT IT READS IS OF BULK AT MOST 1048576: true; the input reads as it did. -/
def flatNoneUptoRow : OpenClaim := { program := "ytgfafpiinencpaa", sum := "49e6c581b5ff8da1a17a40988df38c362a04ebb75c29bd7e6c4ac0e8480c4cc7", func := "theodolite/theodolitelaw05.FlatNone", spec := "flatNone", inPlace := ["math/bits.Add64"], unfollowed := true, recurses := true, apart := false, narrowed := true }
def FlatNoneUptoSaid : Prop := flatNoneUptoRow.holds Try.pinned (OpenSpec.upto flatNoneSpec)

/-- 'theodolitelaw05.FlatWhole', WHERE WHAT IT READS IS OF BULK AT MOST 1048576: true; the input reads as it did. -/
def flatWholeUptoRow : OpenClaim := { program := "ytgfafpiinencpaa", sum := "49e6c581b5ff8da1a17a40988df38c362a04ebb75c29bd7e6c4ac0e8480c4cc7", func := "theodolite/theodolitelaw05.FlatWhole", spec := "flatWhole", inPlace := ["math/bits.Add64"], unfollowed := true, recurses := true, apart := false, narrowed := true }
def FlatWholeUptoSaid : Prop := flatWholeUptoRow.holds Try.pinned (OpenSpec.upto flatWholeSpec)

/-- 'theodolitelaw05.FlatParts', WHERE WHAT IT READS IS OF BULK AT MOST 1048576: true; the input reads as it did. -/
def flatPartsUptoRow : OpenClaim := { program := "ytgfafpiinencpaa", sum := "49e6c581b5ff8da1a17a40988df38c362a04ebb75c29bd7e6c4ac0e8480c4cc7", func := "theodolite/theodolitelaw05.FlatParts", spec := "flatParts", inPlace := ["math/bits.Add64"], unfollowed := true, recurses := true, apart := false, narrowed := true }
def FlatPartsUptoSaid : Prop := flatPartsUptoRow.holds Try.pinned (OpenSpec.upto flatPartsSpec)

end Rows
end Go.Proofs.Ytgfafpiinencpaa
