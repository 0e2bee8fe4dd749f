/- Texts of mine, joined by merge.py: VcLawT2. -/
import Derived.Test.YtljbcihbgeiacaaGreatMrg9
set_option maxRecDepth 100000

/- VcLawT2 -/
namespace Go.Proofs.YtljbcihbgeiacaaGreat

theorem build_op (a b c d e : Int) (s t : Sl) : buildOf Tryz.prog 39 1 #[(0, .agg #[.int .i64 a, .int .i64 b, .int .i64 c, .int .i64 d, .int .i64 e, .slice s.a s.n s.c, .slice t.a t.n t.c])] =
    some (45, [.int .i64 a, .int .i64 b, .int .i64 c, .int .i64 d, .int .i64 e, .slice s.a s.n s.c, .slice t.a t.n t.c]) := by kernel_rfl

theorem law.IvfNil {kind id k bud rid : Int} {rv qs : Sl} {v q : List Int} {u : H} {K : Bool → H → Prop} (hTab : TabU u) (hv : Ints u rv v) (hq : Ints u qs q) (hv1 : v.length ≤ 17592186044416) (hq1 : q.length ≤ 17592186044416) (h : ∀ u', u.le u' → K true u') :
    C.theodolitelaw09_IvfNil kind id k bud rid rv qs u K := by
  apply vc.theodolitelaw09_IvfNil
  refine sem_build (build_op _ _ _ _ _ _ _) fun g hg => ?_
  have l1 := H.le_ins (u := u) (b := g) (.cells [Value.int .i64 kind, .int .i64 id, .int .i64 k, .int .i64 bud, .int .i64 rid, .slice rv.a rv.n rv.c, .slice qs.a qs.n qs.c].toArray 45 (0, 0)) hg
  have hO : Ops (u.ins g (.cells [Value.int .i64 kind, .int .i64 id, .int .i64 k, .int .i64 bud, .int .i64 rid, .slice rv.a rv.n rv.c, .slice qs.a qs.n qs.c].toArray 45 (0, 0))) ⟨some ⟨g, 0, none⟩, 1, 1⟩ [⟨kind, id, k, bud, rid, rv, v, qs, q⟩] := by
    have m := OwnF.make (k := 7) (H.le.refl u) hg (cells := [Value.int .i64 kind, .int .i64 id, .int .i64 k, .int .i64 bud, .int .i64 rid, .slice rv.a rv.n rv.c, .slice qs.a qs.n qs.c].toArray) (e := 45) (n := 1) (by omega) rfl
    refine ⟨m.own.seg, fun o ho => ?_⟩
    simp at ho
    subst ho
    exact ⟨hv.mono l1, hq.mono l1⟩
  refine spec.theodolitelaw09_big (l := []) ⟨Rws.nil _, hO, fun r hr => (by cases hr), by show 0 ≤ 17592186044416; omega, fun o ho => ?_, by show 1 ≤ 17592186044416; omega⟩ ⟨fun _ => h _ l1, fun e => (by cases e)⟩ fun _ _ _ _ => ⟨fun e => (by cases e), fun _ => ?_⟩
  · simp at ho
    subst ho
    exact ⟨hv1, hq1⟩
  refine spec.ix_NilPut fun u2 l2 => spec.ix_NilDelete fun u3 l3 => spec.ix_NilSearch fun u4 l4 => ?_
  have hall := ((l1.trans l2).trans l3).trans l4
  refine spec.theodolitelaw09_awake (hTab.mono hall) fun u16 l16 => ⟨fun _ => ⟨fun _ => ⟨fun _ => ⟨fun _ => ⟨fun _ => ⟨fun _ => ?_, fun hne => absurd rfl hne⟩, fun hne => absurd rfl hne⟩, fun e => (by cases e)⟩, fun hne => absurd rfl hne⟩, fun e => (by cases e)⟩, fun e => (by cases e)⟩
  refine spec.theodolitekeep_Answer (AnsR.nil u16) (AnsR.nil u16) rfl ⟨fun _ => ?_, fun e => (by cases e)⟩
  refine spec.ix_NilLen ⟨fun _ => ?_, fun hne => absurd rfl hne⟩
  refine spec.ix_NilRows ?_
  have hd : decide (((⟨none, 0, 0⟩ : Sl).n : Int) = 0) = true := by decide
  exact (show ∀ bb : Bool, bb = true → K bb u16 from fun bb hb => by rw [hb]; exact h u16 (hall.trans l16)) _ hd

end Go.Proofs.YtljbcihbgeiacaaGreat
