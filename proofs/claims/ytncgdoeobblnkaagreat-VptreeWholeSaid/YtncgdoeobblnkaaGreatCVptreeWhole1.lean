/- Texts of mine, joined by merge.py: LawVptreeWhole. -/
import Derived.Test.YtncgdoeobblnkaaGreatMrb10
import Derived.Test.YtncgdoeobblnkaaGreatRows
import Derived.ShutString
import Derived.Below
set_option maxRecDepth 100000

/- LawVptreeWhole -/
namespace Go.Proofs.YtncgdoeobblnkaaGreat.vptreeWhole
open Go.ChangeShapes Go.WideShapes Go.ChangeAt Go.RowKit

theorem own : ownKnob Tryz.prog.godebug = none := by kernel_rfl
theorem laidOut : laidOutB Tryz.prog = true := by kernel_rfl

set_option maxHeartbeats 1000000 in
theorem lifted (os : Os) (started : os.Started) (H' : Type) (enc : TypeId × Value → H') :
    ReturnsInHanded {} Tryz.checked os 8 .any (Rows.vptreeWholeSpec.pre6 enc Tryz.prog Tryz.f8 Rows.vptreeWholeRow.domain false) (Rows.vptreeWholeSpec.post enc Tryz.prog Tryz.f8 false true false false) := by
  refine returnsInHanded_of_change_sized (C := Tryz.checked) own started (by kernel_rfl) Tryz.func8
    (ChangeSpec.witness6 (enc := enc) (C := Tryz.checked) false ⟨#[], #[.slice none 0 0, .agg #[.int .i64 0, .int .i64 0, .int .u64 0], .slice none 0 0, .slice none 0 0, .int .i64 0], []⟩ 8 (by kernel_rfl) (by kernel_rfl) (by kernel_rfl) (by kernel_rfl)) ?_
  intro W base args ds gs before hval0 hW hcnd hsz0 _
  have hsz : (DataW.weightsEach Tryz.prog (Tryz.f8.params.toList ++ Rows.vptreeWholeSpec.plain.varTypes Tryz.prog) (ds ++ gs)).all (· ≤ reachBytes) = true := hsz0
  have hval : ∀ (j : Nat) t v, Tryz.f8.params[j]? = some t → args[j]? = some v → Value.okWide Tryz.prog W .any base t v := hval0
  have hW' := hW
  obtain ⟨p, q, hA0, hV, rfl, hfz, hnd⟩ := hW
  have hA : DataW.TrodAll enc Tryz.prog W 0 (fun _ => true) true Tryz.f8.params.toList args.toList ds p := hA0
  rw [Tryz.params8] at hA hval hsz
  obtain ⟨v0, vs0, d0, ds0, p0, q0, hargs, rfl, rfl, h0, r0⟩ := trodAll_cons hA
  obtain ⟨v1, vs1, d1, ds1, p1, q1, rfl, rfl, rfl, h1, r1⟩ := trodAll_cons r0
  obtain ⟨v2, vs2, d2, ds2, p2, q2, rfl, rfl, rfl, h2, r2⟩ := trodAll_cons r1
  obtain ⟨v3, vs3, d3, ds3, p3, q3, rfl, rfl, rfl, h3, r3⟩ := trodAll_cons r2
  obtain ⟨v4, vs4, d4, ds4, p4, q4, rfl, rfl, rfl, h4, r4⟩ := trodAll_cons r3
  obtain ⟨rfl, rfl, rfl⟩ := trodAll_nil r4
  obtain rfl : args = #[v0, v1, v2, v3, v4] := by cases args; simp_all
  obtain ⟨rfl, rfl⟩ := trodVars_none hV
  have wt : ∀ {j : Nat} {t : TypeId} {d : DataW H'}, ([22, 25, 39, 41, 3] ++ Rows.vptreeWholeSpec.plain.varTypes Tryz.prog)[j]? = some t → ([d0, d1, d2, d3, d4] ++ [])[j]? = some d → ∀ n ∈ d.weights Tryz.prog t, n ≤ reachBytes := fun ht hd n hn => by
    have := List.all_eq_true.1 hsz n (DataW.weights_mem_each ht hd n hn)
    simpa using this
  obtain ⟨a0, n0, c0, rfl⟩ := okWide_slice Tryz.underlying22 (hval 0 22 v0 rfl rfl)
  obtain ⟨cs1, rfl, hcs1⟩ := okWide_struct Tryz.underlying25 (hval 1 25 v1 rfl rfl)
  obtain ⟨a2, n2, c2, rfl⟩ := okWide_slice Tryz.underlying39 (hval 2 39 v2 rfl rfl)
  obtain ⟨a3, n3, c3, rfl⟩ := okWide_slice Tryz.underlying41 (hval 3 41 v3 rfl rfl)
  have k0 := h0
  have lt0 : ∀ x ∈ p0, x.block < W.heap.size := by obtain ⟨m, hm⟩ := k0; exact DataW.trod_lt m _ _ _ hm
  obtain ⟨fu0, hf0⟩ := h0
  have k1 := h1
  have lt1 : ∀ x ∈ p1, x.block < W.heap.size := by obtain ⟨m, hm⟩ := k1; exact DataW.trod_lt m _ _ _ hm
  obtain ⟨fu1, hf1⟩ := h1
  have k2 := h2
  have lt2 : ∀ x ∈ p2, x.block < W.heap.size := by obtain ⟨m, hm⟩ := k2; exact DataW.trod_lt m _ _ _ hm
  obtain ⟨fu2, hf2⟩ := h2
  have k3 := h3
  have lt3 : ∀ x ∈ p3, x.block < W.heap.size := by obtain ⟨m, hm⟩ := k3; exact DataW.trod_lt m _ _ _ hm
  obtain ⟨fu3, hf3⟩ := h3
  obtain ⟨l0, hl0, hsm0, hln0⟩ := open_rows (by simpa [Value.cells] using hf0) (wt (j := 0) rfl rfl)
  obtain ⟨ha1, hb1, hs1, hU1, rfl⟩ := open_how (cs := cs1) (by simpa [Value.cells] using hf1)
  obtain ⟨ol2, hol2, hos2, hon2⟩ := open_ops (by simpa [Value.cells] using hf2) (wt (j := 2) rfl rfl)
  obtain ⟨z3, hq3, hql3⟩ := open_q (by simpa [Value.cells] using hf3) (wt (j := 3) rfl rfl)
  obtain ⟨x4, rfl, rfl, rfl, w4⟩ := open_int Tryz.underlying3 (hval 4 3 v4 rfl rfl) h4
  clear hA0 hval0 hsz0 hsz
  have hlaw := law.VptreeWhole (s := ⟨a0, n0, c0⟩) (t := ⟨a2, n2, c2⟩) (qs := ⟨a3, n3, c3⟩) (A := ha1) (B := hb1) (k := x4) trivial ⟨hl0, hol2, hsm0, hln0, hos2, hon2⟩ hU1 hq3 (u := whole W) (K := fun b u' => b = true ∧ (whole W).le u') fun u' hu' => ⟨rfl, hu'⟩
  refine (hlaw W (whole_sub W)).mono ?_
  rintro e W' ⟨v, u', rfl, ⟨vs, hk, rfl, hc⟩, hs⟩
  cases hk with
  | cons x hr =>
    cases hr
    obtain ⟨hx, hle⟩ : x = true ∧ (whole W).le u' := (CT.un_enc .bool x _).1 hc
    subst hx
    have bel : Below W.heap.size W W' := hs.below hle
    exact ⟨_, rfl, _, _, _, [], _, [], hW', trodAll_mk1 (shut_bool Tryz.underlying4 _),
      (trodAll_cons_mk (Below.trod laidOut (by kernel_rfl) (of_decide_eq_true (by kernel_rfl)) k0 bel lt0) (trodAll_cons_mk (Below.trod laidOut (by kernel_rfl) (of_decide_eq_true (by kernel_rfl)) k1 bel lt1) (trodAll_cons_mk (Below.trod laidOut (by kernel_rfl) (of_decide_eq_true (by kernel_rfl)) k2 bel lt2) (trodAll_cons_mk (Below.trod laidOut (by kernel_rfl) (of_decide_eq_true (by kernel_rfl)) k3 bel lt3) (trodAll_cons_mk (shut_int Tryz.underlying3 w4) trodAll_mk0))))), rfl, bel.frame _, fun h => by cases h⟩

theorem over : Rows.vptreeWholeRow.holds Tryz.pinned (OpenSpec.ofChange Rows.vptreeWholeSpec) :=
  OpenClaim.holds_of_wide 8 Tryz.f8 rfl rfl rfl rfl rfl rfl rfl ⟨rfl, rfl, rfl, rfl, rfl⟩ rfl rfl rfl rfl rfl (by kernel_rfl) Tryz.func8 (by kernel_rfl)
    (of_decide_eq_true (by kernel_rfl)) (by unfold Func.isWrapper; first | (rw [if_pos (by decide +kernel)]; kernel_rfl) | (rw [if_neg (by decide +kernel)]; exact ⟨rfl, rfl⟩))
    (fun os started H' enc _ => lifted os started H' enc)

end Go.Proofs.YtncgdoeobblnkaaGreat.vptreeWhole
namespace Go.Proofs.YtncgdoeobblnkaaGreat
theorem vptreeWhole_holds : Rows.VptreeWholeSaid := vptreeWhole.over
#print axioms vptreeWhole_holds
end Go.Proofs.YtncgdoeobblnkaaGreat
