/- Texts of mine, joined by merge.py: VcLawT2, LawHnswNil. -/
import Derived.Test.YtpbelkpfljhjlaaGreatDoorMrg9
import Derived.Test.YtpbelkpfljhjlaaGreatDoorCards
import Derived.Test.YtpbelkpfljhjlaaGreatDoorTie
import Derived.ShutString
import Derived.Below
import Derived.OpenShut
import Derived.Handed
import Derived.ProofKit
set_option maxRecDepth 100000

/- VcLawT2 -/
namespace Go.Proofs.YtpbelkpfljhjlaaGreatDoor

theorem build_op (a b c d e : Int) (s t : Sl) : buildOf Tryz.prog 39 1 #[(0, .agg #[.int .i64 a, .int .i64 b, .int .i64 c, .int .i64 d, .int .i64 e, .slice s.a s.n s.c, .slice t.a t.n t.c])] =
    some (45, [.int .i64 a, .int .i64 b, .int .i64 c, .int .i64 d, .int .i64 e, .slice s.a s.n s.c, .slice t.a t.n t.c]) := by kernel_rfl

theorem law.HnswNil {kind id k bud rid : Int} {rv qs : Sl} {v q : List Int} {u : H} {K : Bool → H → Prop} (hTab : TabU u) (hv : Ints u rv v) (hq : Ints u qs q) (hv1 : v.length ≤ 17592186044416) (hq1 : q.length ≤ 17592186044416) (h : ∀ u', u.le u' → K true u') :
    C.theodolitelaw11_HnswNil kind id k bud rid rv qs u K := by
  apply vc.theodolitelaw11_HnswNil
  refine sem_build (build_op _ _ _ _ _ _ _) fun g hg => ?_
  have l1 := H.le_ins (u := u) (b := g) (.cells [Value.int .i64 kind, .int .i64 id, .int .i64 k, .int .i64 bud, .int .i64 rid, .slice rv.a rv.n rv.c, .slice qs.a qs.n qs.c].toArray 45 (0, 0)) hg
  have hO : Ops (u.ins g (.cells [Value.int .i64 kind, .int .i64 id, .int .i64 k, .int .i64 bud, .int .i64 rid, .slice rv.a rv.n rv.c, .slice qs.a qs.n qs.c].toArray 45 (0, 0))) ⟨some ⟨g, 0, none⟩, 1, 1⟩ [⟨kind, id, k, bud, rid, rv, v, qs, q⟩] := by
    have m := OwnF.make (k := 7) (H.le.refl u) hg (cells := [Value.int .i64 kind, .int .i64 id, .int .i64 k, .int .i64 bud, .int .i64 rid, .slice rv.a rv.n rv.c, .slice qs.a qs.n qs.c].toArray) (e := 45) (n := 1) (by omega) rfl
    refine ⟨m.own.seg, fun o ho => ?_⟩
    simp at ho
    subst ho
    exact ⟨hv.mono l1, hq.mono l1⟩
  refine spec.theodolitelaw11_big (l := []) ⟨Rws.nil _, hO, fun r hr => (by cases hr), by show 0 ≤ 17592186044416; omega, fun o ho => ?_, by show 1 ≤ 17592186044416; omega⟩ ⟨fun _ => h _ l1, fun e => (by cases e)⟩ fun _ _ _ _ => ⟨fun e => (by cases e), fun _ => ?_⟩
  · simp at ho
    subst ho
    exact ⟨hv1, hq1⟩
  refine vc.hnsw_Tree__Put none rid rv _ _ ⟨fun _ => ?_, fun hne => absurd rfl hne⟩
  refine vc.hnsw_Tree__Delete none id _ _ fun nd hnd => ⟨fun _ => ?_, fun hne => absurd rfl hne⟩
  have l2 := H.le_ins (b := nd) (.cells #[.int .i64 id] 3 (0, 0)) hnd
  refine vc.hnsw_Tree__Search none qs k bud _ _ fun ns hns => ⟨fun _ => ?_, fun hne => absurd rfl hne⟩
  have l3 := H.le_ins (b := ns) (.cells #[.int .i64 bud] 3 (0, 0)) hns
  have hall := (l1.trans l2).trans l3
  refine spec.theodolitelaw11_awake (hTab.mono hall) fun u16 l16 => ⟨fun _ => ⟨fun _ => ⟨fun _ => ⟨fun _ => ⟨fun _ => ⟨fun _ => ?_, fun hne => absurd rfl hne⟩, fun hne => absurd rfl hne⟩, fun e => (by cases e)⟩, fun hne => absurd rfl hne⟩, fun e => (by cases e)⟩, fun e => (by cases e)⟩
  refine spec.theodolitekeep_Answer (AnsR.nil u16) (AnsR.nil u16) rfl ⟨fun _ => ?_, fun e => (by cases e)⟩
  refine vc.hnsw_Tree__Len none _ _ ⟨fun _ => ⟨fun _ => ?_, fun hne => absurd rfl hne⟩, fun hne => absurd rfl hne⟩
  refine vc.hnsw_Tree__Rows none _ _ ⟨fun _ => ?_, fun hne => absurd rfl hne⟩
  have hd : decide (((⟨none, 0, 0⟩ : Sl).n : Int) = 0) = true := by decide
  exact (show ∀ bb : Bool, bb = true → K bb u16 from fun bb hb => by rw [hb]; exact h u16 (hall.trans l16)) _ hd

end Go.Proofs.YtpbelkpfljhjlaaGreatDoor

/- LawHnswNil -/
namespace Go.Proofs.YtpbelkpfljhjlaaGreatDoor.hnswNil
open Go.ChangeShapes Go.WideShapes Go.ChangeAt Go.RowKit

theorem own : ownKnob Tryz.prog.godebug = none := by kernel_rfl
theorem laidOut : laidOutB Tryz.prog = true := by kernel_rfl

set_option maxHeartbeats 1000000 in
theorem lifted (os : Os) (started : os.Started) (H' : Type) (enc : TypeId × Value → H') :
    ReturnsInHanded {} Tryz.checked os 6 .any (fun w args => (Rows.hnswNilSpec.pre enc Tryz.prog Tryz.f6 Rows.hnswNilRow.domain false w args ∧ laidMetH Tryz.prog Rows.hnswNilRow.laid w) ∧ sizedMet enc Tryz.prog Tryz.f6 (OpenSpec.ofChange Rows.hnswNilSpec) false w args) (Rows.hnswNilSpec.post enc Tryz.prog Tryz.f6 false true false false) := by
  refine returnsInHanded_of_change_and (C := Tryz.checked) (X := fun w _ => laidMetH Tryz.prog Rows.hnswNilRow.laid w) (fun _ _ _ hh h => h.of_heap hh) own started (by kernel_rfl) Tryz.func6
    (ChangeSpec.witness_shaped (enc := enc) (C := Tryz.checked) (os := os) (X := fun w _ => laidMetH Tryz.prog Rows.hnswNilRow.laid w) false (World.laidAll Tryz.prog os Rows.hnswNilRow.laid) #[.agg #[.int .i64 0, .int .i64 0, .int .i64 0, .int .i64 0, .int .i64 0, .slice none 0 0, .slice none 0 0]] 8 (World.laidAll_os _ _ _)
      (World.shaped_of_ZipB (by kernel_rfl) (by kernel_rfl)) (by kernel_rfl) (by kernel_rfl) (by kernel_rfl)
      (by rw [MakeChecks.laidMetH_plain _ _ _ (by kernel_rfl)]; exact laidMet_laidAll _ (by kernel_rfl) (by kernel_rfl))) ?_
  intro W base args ds gs before hval0 hW hcnd hsz0 hL _
  have hsz : (DataW.weightsEach Tryz.prog (Tryz.f6.params.toList ++ Rows.hnswNilSpec.plain.varTypes Tryz.prog) (ds ++ gs)).all (· ≤ reachBytes) = true := hsz0
  have hval : ∀ (j : Nat) t v, Tryz.f6.params[j]? = some t → args[j]? = some v → Value.okWide Tryz.prog W .any base t v := hval0
  have hW' := hW
  obtain ⟨p, q, hA0, hV, rfl, hfz, hnd⟩ := hW
  have hA : DataW.TrodAll enc Tryz.prog W 0 (fun _ => true) true Tryz.f6.params.toList args.toList ds p := hA0
  rw [Tryz.params6] at hA hval hsz
  obtain ⟨v0, vs0, d0, ds0, p0, q0, hargs, rfl, rfl, h0, r0⟩ := trodAll_cons hA
  obtain ⟨rfl, rfl, rfl⟩ := trodAll_nil r0
  obtain rfl : args = #[v0] := by cases args; simp_all
  obtain ⟨rfl, rfl⟩ := trodVars_none hV
  have wt : ∀ {j : Nat} {t : TypeId} {d : DataW H'}, ([45] ++ Rows.hnswNilSpec.plain.varTypes Tryz.prog)[j]? = some t → ([d0] ++ [])[j]? = some d → ∀ n ∈ d.weights Tryz.prog t, n ≤ reachBytes := fun ht hd n hn => by
    have := List.all_eq_true.1 hsz n (DataW.weights_mem_each ht hd n hn)
    simpa using this
  obtain ⟨cs0, rfl, hcs0⟩ := okWide_struct Tryz.underlying45 (hval 0 45 v0 rfl rfl)
  have k0 := h0
  have lt0 : ∀ x ∈ p0, x.block < W.heap.size := by obtain ⟨m, hm⟩ := k0; exact DataW.trod_lt m _ _ _ hm
  obtain ⟨fu0, hf0⟩ := h0
  obtain ⟨o0, eo0, ho10, ho20, ho30, ho40⟩ := open_op1 (cs := cs0.toList) (by simpa [Value.cells] using hf0) (wt (j := 0) rfl rfl)
  obtain rfl : cs0 = (encO o0).toArray := by rw [← eo0]
  clear hA0 hval0 hsz0 hsz
  have hlaw := law.HnswNil (kind := o0.kind) (id := o0.id) (k := o0.k) (bud := o0.bud) (rid := o0.rid) (rv := o0.rv) (qs := o0.qs) (tab_of hL) ho10 ho20 ho30 ho40 (u := whole W) (K := fun b u' => b = true ∧ (whole W).le u') fun u' hu' => ⟨rfl, hu'⟩
  refine (hlaw W (whole_sub W)).mono ?_
  rintro e W' ⟨v, u', rfl, ⟨vs, hk, rfl, hc⟩, hs⟩
  cases hk with
  | cons x hr =>
    cases hr
    obtain ⟨hx, hle⟩ : x = true ∧ (whole W).le u' := (CT.un_enc .bool x _).1 hc
    subst hx
    have bel : Below W.heap.size W W' := hs.below hle
    exact ⟨_, rfl, _, _, _, [], _, [], hW', trodAll_mk1 (shut_bool Tryz.underlying4 _),
      (trodAll_cons_mk (Below.trod laidOut (by kernel_rfl) (of_decide_eq_true (by kernel_rfl)) k0 bel lt0) trodAll_mk0), rfl, bel.frame _, fun h => by cases h⟩

theorem over : Rows.hnswNilRow.holds Tryz.pinned (OpenSpec.ofChange Rows.hnswNilSpec) :=
  OpenClaim.holds_of_wide 6 Tryz.f6 rfl rfl rfl rfl rfl rfl rfl ⟨rfl, rfl, rfl, rfl, rfl⟩ rfl rfl rfl rfl rfl (by kernel_rfl) Tryz.func6 (by kernel_rfl)
    (of_decide_eq_true (by kernel_rfl)) (by unfold Func.isWrapper; first | (rw [if_pos (by decide +kernel)]; kernel_rfl) | (rw [if_neg (by decide +kernel)]; exact ⟨rfl, rfl⟩))
    (fun os started H' enc _ => lifted os started H' enc)

theorem card : Rows.HnswNilCardSaid :=
  Claim7.holds_tied_plain_at .later [] [.data] true _ true over (fun _ h => by cases h) (by kernel_rfl) (fun _ h => by cases h) hnswNil_row_tie rfl ⟨rfl, rfl⟩ (by kernel_rfl) rfl
    (fun f fn hf hfn => by
      obtain rfl : f = 6 := Option.some.inj ((show Tryz.prog.funcNamed "theodolite/theodolitelaw11.HnswNil" = some 6 by kernel_rfl).symm.trans hf) |>.symm
      obtain rfl : fn = Tryz.f6 := (Option.some.inj (Tryz.func6.symm.trans hfn)).symm
      exact ⟨by kernel_rfl, fun j t ht => by
        rw [Tryz.params6] at ht
        have hm : t ∈ [45] := by simpa using Array.mem_of_getElem? ht
        have hall : ([45].all fun u => !Tryz.prog.wantsStandIn u) = true := by kernel_rfl
        exact (show Tryz.prog.wantsStandIn t = false by simpa using List.all_eq_true.1 hall t hm)⟩)
    (by kernel_rfl)

end Go.Proofs.YtpbelkpfljhjlaaGreatDoor.hnswNil
namespace Go.Proofs.YtpbelkpfljhjlaaGreatDoor
theorem hnswNil_card : Rows.HnswNilCardSaid := hnswNil.card
#print axioms hnswNil_card
end Go.Proofs.YtpbelkpfljhjlaaGreatDoor
