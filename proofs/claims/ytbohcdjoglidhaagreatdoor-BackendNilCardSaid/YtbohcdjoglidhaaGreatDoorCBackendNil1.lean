/- Texts of mine, joined by merge.py: LawBackendNil. -/
import Derived.Test.YtbohcdjoglidhaaGreatDoorMra10
import Derived.Test.YtbohcdjoglidhaaGreatDoorCards
import Derived.Test.YtbohcdjoglidhaaGreatDoorTie
import Derived.Deep.Strs
import Derived.Lib.LaidTab
import Derived.LaidMore
import Derived.Lay
import Derived.SevenTiedAt
import Derived.ShutString
import Derived.Below
import Derived.OpenShut
import Derived.Handed
import Derived.ProofKit
set_option maxRecDepth 100000

/- LawBackendNil -/
namespace Go.Proofs.YtbohcdjoglidhaaGreatDoor.backendNil
open Go.ChangeShapes Go.WideShapes Go.ChangeAt Go.RowKit

theorem own : ownKnob Tryz.prog.godebug = none := by kernel_rfl
theorem laidOut : laidOutB Tryz.prog = true := by kernel_rfl

set_option maxHeartbeats 1000000 in
theorem lifted (os : Os) (started : os.Started) (H' : Type) (enc : TypeId × Value → H') :
    ReturnsInHanded {} Tryz.checked os 3 .any (fun w args => (Rows.backendNilSpec.pre enc Tryz.prog Tryz.f3 Rows.backendNilRow.domain false w args ∧ laidMetH Tryz.prog Rows.backendNilRow.laid w) ∧ sizedMet enc Tryz.prog Tryz.f3 (OpenSpec.ofChange Rows.backendNilSpec) false w args) (Rows.backendNilSpec.post enc Tryz.prog Tryz.f3 false true false false) := by
  refine returnsInHanded_of_change_and (C := Tryz.checked) (X := fun w _ => laidMetH Tryz.prog Rows.backendNilRow.laid w) (fun _ _ _ hh h => h.of_heap hh) own started (by kernel_rfl) Tryz.func3
    (ChangeSpec.witness_shaped (enc := enc) (C := Tryz.checked) (os := os) (X := fun w _ => laidMetH Tryz.prog Rows.backendNilRow.laid w) false (World.laidAll Tryz.prog os Rows.backendNilRow.laid) #[.agg #[.int .i64 0, .int .i64 0, .int .i64 0, .int .i64 0, .int .i64 0, .slice none 0 0, .slice none 0 0]] 8 (World.laidAll_os _ _ _)
      (World.shaped_of_ZipB (by kernel_rfl) (by kernel_rfl)) (by kernel_rfl) (by kernel_rfl) (by kernel_rfl)
      (by rw [MakeChecks.laidMetH_plain _ _ _ (by kernel_rfl)]; exact laidMet_laidAll _ (by kernel_rfl) (by kernel_rfl))) ?_
  intro W base args ds gs before hval0 hW hcnd hsz0 hL _
  have hsz : (DataW.weightsEach Tryz.prog (Tryz.f3.params.toList ++ Rows.backendNilSpec.plain.varTypes Tryz.prog) (ds ++ gs)).all (· ≤ reachBytes) = true := hsz0
  have hval : ∀ (j : Nat) t v, Tryz.f3.params[j]? = some t → args[j]? = some v → Value.okWide Tryz.prog W .any base t v := hval0
  have hW' := hW
  obtain ⟨p, q, hA0, hV, rfl, hfz, hnd⟩ := hW
  have hA : DataW.TrodAll enc Tryz.prog W 0 (fun _ => true) true Tryz.f3.params.toList args.toList ds p := hA0
  rw [Tryz.params3] at hA hval hsz
  obtain ⟨v0, vs0, d0, ds0, p0, q0, hargs, rfl, rfl, h0, r0⟩ := trodAll_cons hA
  obtain ⟨rfl, rfl, rfl⟩ := trodAll_nil r0
  obtain rfl : args = #[v0] := by cases args; simp_all
  obtain ⟨rfl, rfl⟩ := trodVars_none hV
  have wt : ∀ {j : Nat} {t : TypeId} {d : DataW H'}, ([26] ++ Rows.backendNilSpec.plain.varTypes Tryz.prog)[j]? = some t → ([d0] ++ [])[j]? = some d → ∀ n ∈ d.weights Tryz.prog t, n ≤ reachBytes := fun ht hd n hn => by
    have := List.all_eq_true.1 hsz n (DataW.weights_mem_each ht hd n hn)
    simpa using this
  obtain ⟨cs0, rfl, hcs0⟩ := okWide_struct Tryz.underlying26 (hval 0 26 v0 rfl rfl)
  have k0 := h0
  have lt0 : ∀ x ∈ p0, x.block < W.heap.size := by obtain ⟨m, hm⟩ := k0; exact DataW.trod_lt m _ _ _ hm
  obtain ⟨fu0, hf0⟩ := h0
  obtain ⟨o0, eo0, ho10, ho20, ho30, ho40⟩ := open_op1 (cs := cs0.toList) (by simpa [Value.cells] using hf0) (wt (j := 0) rfl rfl)
  obtain rfl : cs0 = (encO o0).toArray := by rw [← eo0]
  clear hA0 hval0 hsz0 hsz
  have hlaw := law.BackendNil (kind := o0.kind) (id := o0.id) (k := o0.k) (bud := o0.bud) (rid := o0.rid) (rv := o0.rv) (qs := o0.qs) trivial ho10 ho20 ho30 ho40 (u := whole W) (K := fun b u' => b = true ∧ (whole W).le u') fun u' hu' => ⟨rfl, hu'⟩
  refine (hlaw W (whole_sub W)).mono ?_
  rintro e W' ⟨v, u', rfl, ⟨vs, hk, rfl, hc⟩, hs⟩
  cases hk with
  | cons x hr =>
    cases hr
    obtain ⟨hx, hle⟩ : x = true ∧ (whole W).le u' := (CT.un_enc .bool x _).1 hc
    subst hx
    have bel : Below W.heap.size W W' := hs.below hle
    exact ⟨_, rfl, _, _, _, [], _, [], hW', trodAll_mk1 (shut_bool Tryz.underlying4 _),
      (trodAll_cons_mk (Below.trod laidOut (by kernel_rfl) (of_decide_eq_true (by kernel_rfl)) k0 bel lt0) trodAll_mk0), rfl, bel.frame _, fun h => by cases h⟩

theorem over : Rows.backendNilRow.holds Tryz.pinned (OpenSpec.ofChange Rows.backendNilSpec) :=
  OpenClaim.holds_of_wide 3 Tryz.f3 rfl rfl rfl rfl rfl rfl rfl ⟨rfl, rfl, rfl, rfl, rfl⟩ rfl rfl rfl rfl rfl (by kernel_rfl) Tryz.func3 (by kernel_rfl)
    (of_decide_eq_true (by kernel_rfl)) (by unfold Func.isWrapper; first | (rw [if_pos (by decide +kernel)]; kernel_rfl) | (rw [if_neg (by decide +kernel)]; exact ⟨rfl, rfl⟩))
    (fun os started H' enc _ => lifted os started H' enc)

theorem card : Rows.BackendNilCardSaid :=
  Claim7.holds_tied_plain_at .later [] [.data] true _ true over (fun _ h => by cases h) (by kernel_rfl) (fun _ h => by cases h) backendNil_row_tie rfl ⟨rfl, rfl⟩ (by kernel_rfl) rfl
    (fun f fn hf hfn => by
      obtain rfl : f = 3 := Option.some.inj ((show Tryz.prog.funcNamed "theodolite/theodolitelaw14.BackendNil" = some 3 by kernel_rfl).symm.trans hf) |>.symm
      obtain rfl : fn = Tryz.f3 := (Option.some.inj (Tryz.func3.symm.trans hfn)).symm
      exact ⟨by kernel_rfl, fun j t ht => by
        rw [Tryz.params3] at ht
        have hm : t ∈ [26] := by simpa using Array.mem_of_getElem? ht
        have hall : ([26].all fun u => !Tryz.prog.wantsStandIn u) = true := by kernel_rfl
        exact (show Tryz.prog.wantsStandIn t = false by simpa using List.all_eq_true.1 hall t hm)⟩)
    (by kernel_rfl)

end Go.Proofs.YtbohcdjoglidhaaGreatDoor.backendNil
namespace Go.Proofs.YtbohcdjoglidhaaGreatDoor
theorem backendNil_card : Rows.BackendNilCardSaid := backendNil.card
#print axioms backendNil_card
end Go.Proofs.YtbohcdjoglidhaaGreatDoor
