/- flat: the iterator of hits, TopK, Range. -/
import Derived.Test.YtgfafpiinencpaaGreatVcTopk2
import Derived.Test.YtgfafpiinencpaaGreatVcRange
set_option maxRecDepth 100000
namespace Go.Proofs.YtgfafpiinencpaaGreat

/-- A hit as a value. -/
def hitV (h : Hit) : Value := .agg #[.int .i64 h.1, .int .u64 (hiW h.2), .int .u64 (loW h.2)]

theorem bHits1 : hasBody Tryz.prog 43 = true := by kernel_rfl

theorem hits_iter {u : H} {s t : Sl} {l : List Rw} {q : List Int} (hs : Rws u s l) (ht : Ints u t q) (hok : Qok l q) {n0 n1 : Nat} (c0 : u.cell? ⟨n0, 0, none⟩ = some (.slice s.a s.n s.c)) (c1 : u.cell? ⟨n1, 0, none⟩ = some (.slice t.a t.n t.c)) :
    Iter Tryz.prog (.func (.func 43) #[] #[.pointer (some ⟨n0, 0, none⟩), .pointer (some ⟨n1, 0, none⟩)]) hitV (l.map (hitOf q)) u := by
  intro yv J hJ hround v K h0 hK
  refine ⟨_, _, rfl, bodyOf bHits1, ?_⟩
  have e : (#[yv] ++ #[Value.pointer (some ⟨n0, 0, none⟩), .pointer (some ⟨n1, 0, none⟩)] : Array Value) = #[yv, .pointer (some ⟨n0, 0, none⟩), .pointer (some ⟨n1, 0, none⟩)] := by simp
  rw [e]
  have hn := hs.len
  have hdim := hok.rows.dim
  refine vc.flat_hits_1 yv ⟨n0, 0, none⟩ ⟨n1, 0, none⟩ v K ⟨s, H.cell?_mono (hJ _ _ h0) c0, fun i w => 0 ≤ i ∧ i ≤ (s.n : Int) ∧ J i.toNat w, fun i _ => s.n - i.toNat, ⟨by omega, by omega, h0⟩, ?_⟩
  rintro i w ⟨i0, i1, hj⟩
  have hle := hJ _ _ hj
  refine ⟨fun hi => ?_, fun hi => hK _ ?_⟩
  · obtain ⟨p, hp, r, hr, d0, d1, hv⟩ := (hs.mono hle).at i0 hi
    have hrm := List.mem_of_getElem? hr
    obtain ⟨hl, hvr⟩ := hok.rows.v r hrm
    refine ⟨p, hp, ⟨i0, hi⟩, _, d0, _, d1, t, H.cell?_mono hle c1, spec.vec_Dist hv (ht.mono hle) hvr (by omega) hok.vq (by omega) fun x y hx hy hw => ?_⟩
    have ex : x = hiW (hitOf q r).2 := by rw [← show wv x y = (hitOf q r).2 from hw, hi_wv hy]
    have ey : y = loW (hitOf q r).2 := by rw [← show wv x y = (hitOf q r).2 from hw, lo_wv hy]
    subst ex; subst ey
    refine .inr (hround i.toNat (hitOf q r) w _ (by rw [List.getElem?_map, hr]; rfl) hj fun v' hv' => ⟨fun h => absurd rfl h, fun _ => ⟨⟨by have := hs.max; omega, by have := hs.max; omega⟩, ⟨by omega, by omega, ?_⟩, by dsimp only; omega⟩⟩)
    rw [show (i + 1).toNat = i.toNat + 1 by omega]
    exact hv'
  · rw [List.length_map]
    have : i.toNat = l.length := by omega
    rw [← this]; exact hj

theorem callOk : ∀ f args w, (∃ fn, Tryz.prog.funcs[f]? = some fn ∧ fn.body.isSome = true) → (callFunc f args).run Tryz.prog w = .ok (.enter f args) w :=
  fun _ args w h => callFunc_run (good [] false) h args w

/-! ### TopK -/

noncomputable abbrev topkC : Code := rgCode (Tryz.f9.body.getD Go.Code.skip)

theorem topkC_eq : topkC = .rangeFunc (.tmp 34) #[35] (rgA topkC) (rgB topkC) := by kernel_rfl

theorem topk_round (n9 : Nat) (y : Hit) (v : H) (J : H → Prop) (env : List (Nat × Value)) (he : (9, Value.pointer (some ⟨n9, 0, none⟩)) ∈ env)
    (h : ∀ m, v m = none → H.St (v.ins m (.cells #[.int .i64 0, .int .u64 0, .int .u64 0] 62 (0, 0))) ⟨m, 0, none⟩ [.int .i64 y.1, .int .u64 (hiW y.2), .int .u64 (loW y.2)] fun u1 => Exit.normal = Exit.normal ∧ ([] : List (List Value)) = [] ∧
      ∃ p : Option Addr, u1.cell? ⟨n9, 0, none⟩ = some (.pointer p) ∧ ∃ x1 : Int, u1.cell? ⟨m, 0, none⟩ = some (.int .i64 x1) ∧ ∃ x2 : Int, u1.cell? ((Addr.mk m 0 none).add 1) = some (.int .u64 x2) ∧ ∃ x3 : Int, u1.cell? ((Addr.mk m 0 none).add 2) = some (.int .u64 x3) ∧
        C.topk_Heap__Offer p x1 x2 x3 u1 fun _ u2 => Exit.normal = Exit.normal ∧ J u2) :
    RoundOk Tryz.prog 41 (rgA topkC) (rgB topkC) env 35 (hitV y) v J :=
  RoundOk.of (C := { P := Tryz.prog, exp := [11], wrap := false, eqT := eqT }) (good _ _) (by kernel_rfl) (by kernel_rfl) [(35, .v (hitV y)), (9, .ptr ⟨n9, 0, none⟩)] (by
    intro p hp
    rcases List.mem_cons.1 hp with rfl | hp
    · exact ⟨_, rfl, .inl ⟨rfl, rfl⟩⟩
    · rcases List.mem_cons.1 hp with rfl | hp
      · exact ⟨_, rfl, .inr ⟨show (9 : Nat) ≠ 35 by decide, he⟩⟩
      · cases hp) (Eq.mp (by kernel_rfl) h)

theorem st_new3 {u : H} {m : Nat} {y : Hit} {T : TypeId} {f : H → Prop} (hf : f (u.ins m (.cells (encH y).toArray T (0, 0)))) :
    H.St (u.ins m (.cells #[.int .i64 0, .int .u64 0, .int .u64 0] T (0, 0))) ⟨m, 0, none⟩ [.int .i64 y.1, .int .u64 (hiW y.2), .int .u64 (loW y.2)] f :=
  st_new (zs := [.int .i64 0, .int .u64 0, .int .u64 0]) rfl (by simp [Value.oneCell']) hf

theorem cells3 {u : H} {m : Nat} {y : Hit} {T : TypeId} : (u.ins m (.cells (encH y).toArray T (0, 0))).cell? ⟨m, 0, none⟩ = some (.int .i64 y.1) ∧ (u.ins m (.cells (encH y).toArray T (0, 0))).cell? ((Addr.mk m 0 none).add 1) = some (.int .u64 (hiW y.2)) ∧
    (u.ins m (.cells (encH y).toArray T (0, 0))).cell? ((Addr.mk m 0 none).add 2) = some (.int .u64 (loW y.2)) := by
  rw [Addr.add_lit, Addr.add_lit]
  refine ⟨?_, ?_, ?_⟩ <;> (rw [H.cell?_ins]; rfl)

theorem cell_ins_other {u : H} {m : Nat} {o : Obj} {a : Addr} {v : Value} (h : u.cell? a = some v) (hm : u m = none) : (u.ins m o).cell? a = some v := H.cell?_mono (H.le_ins _ hm) h

/-- A heap's cell of a pointer to it, among what a loop keeps. -/
def BoxAt (u : H) (n : Nat) (v : Value) : Prop := u n = some (.cells #[v] 52 (0, 0))

theorem take_map_succ {α β : Type} (f : α → β) (l : List α) (i : Nat) (y : β) (h : (l.map f)[i]? = some y) : (l.map f).take (i + 1) = (l.map f).take i ++ [y] := by
  rw [List.take_add_one, h]; rfl

/-- What the errors of a search for the first k are. -/
def topErr (l : List Rw) (q : List Int) (k : Int) : Int := if asked l q ≠ 0 then asked l q else if k < 1 ∨ 64 < k then 1 else 0

theorem spec.flat_TopK {s t : Sl} {l : List Rw} {q : List Int} {k : Int} {u : H} {K : Sl → Int → H → Prop} (hs : Rws u s l) (ht : Ints u t q)
    (hbad : topErr l q k ≠ 0 → K ⟨none, 0, 0⟩ (topErr l q k) u) (hok : Qok l q → 1 ≤ k → k ≤ 64 → ∀ s' u', OwnF u u' 62 3 s' ((topk k.toNat (l.map (hitOf q))).flatMap encH) → K s' 0 u') : C.flat_TopK s t k u K := by
  apply vc.flat_TopK
  refine spec.flat_asked hs ht ⟨fun hne => ?_, fun he => ?_⟩
  · have : topErr l q k = asked l q := if_pos hne
    rw [this] at hbad; exact hbad hne
  have hqok := asked_ok.1 he
  have htop : k < 1 ∨ 64 < k → topErr l q k = 1 := fun h => by unfold topErr; rw [if_neg (by simpa using he), if_pos h]
  intro K2 hK2
  refine ⟨fun h1 => ?_, fun h1 => ⟨fun h2 => ?_, fun h2 => hK2 ⟨none, 0, 0⟩ _ _ ?_⟩⟩
  · rw [htop (.inl h1)] at hbad; exact hbad (by decide)
  · rw [htop (.inr h2)] at hbad; exact hbad (by decide)
  clear hK2 K2
  refine spec.topk_New (fun h => by omega) fun k1 k2 n u1 hu1 hn1 htop1 n9 hn9 => st_new (zs := [.pointer none]) rfl (by simp [Value.oneCell']) ?_
  refine ⟨fun h => absurd rfl h, fun _ => ?_⟩
  apply vc.flat_hits
  intro n0 hn0 n1 hn1'
  have b9 : u1.ins n9 (Obj.cells [Value.pointer (some ⟨n, 0, none⟩)].toArray 52 (0, 0)) = u1.ins n9 (Obj.cells #[Value.pointer (some ⟨n, 0, none⟩)] 52 (0, 0)) := rfl
  rw [b9] at hn0 hn1' ⊢
  generalize hob9 : Obj.cells #[Value.pointer (some ⟨n, 0, none⟩)] 52 (0, 0) = o9 at hn0 hn1' ⊢
  generalize hob0 : Obj.cells #[Value.slice s.a s.n s.c] 22 (0, 0) = o0 at hn1' ⊢
  generalize hob1 : Obj.cells #[Value.slice t.a t.n t.c] 23 (0, 0) = o1
  have htop2 := ((htop1.rebase hn9 o9).rebase hn0 o0).rebase hn1' o1
  have l9 : u1.le (u1.ins n9 o9) := H.le_ins _ hn9
  have hu9 : u n9 = none := hu1.none hn9
  have hu0 : (u.ins n9 o9) n0 = none := (H.ins_le hu1 n9 o9).none hn0
  have hub1 : ((u.ins n9 o9).ins n0 o0) n1 = none := (H.ins_le (H.ins_le hu1 n9 o9) n0 o0).none hn1'
  have lub : u.le (((u.ins n9 o9).ins n0 o0).ins n1 o1) := ((H.le_ins _ hu9).trans (H.le_ins _ hu0)).trans (H.le_ins _ hub1)
  have hbox : (((u.ins n9 o9).ins n0 o0).ins n1 o1) n9 = some o9 := (H.le_ins _ hub1) _ _ ((H.le_ins _ hu0) _ _ (H.ins_same _ _ _))
  have c0 : (((u.ins n9 o9).ins n0 o0).ins n1 o1).cell? ⟨n0, 0, none⟩ = some (.slice s.a s.n s.c) := by
    refine cell_ins_other ?_ hub1
    rw [← hob0]; exact H.cell?_of (H.ins_same _ _ _) 0
  have c1 : (((u.ins n9 o9).ins n0 o0).ins n1 o1).cell? ⟨n1, 0, none⟩ = some (.slice t.a t.n t.c) := by
    rw [← hob1]; exact H.cell?_of (H.ins_same _ _ _) 0
  generalize (((u.ins n9 o9).ins n0 o0).ins n1 o1) = ub at htop2 lub hbox c0 c1
  have hcell9 : ∀ w, ub.le w → w.cell? ⟨n9, 0, none⟩ = some (.pointer (some ⟨n, 0, none⟩)) := fun w hw => by
    have := hw _ _ hbox
    rw [← hob9] at this
    exact H.cell?_of this 0
  -- the loop
  refine RgS.code topkC_eq (RgS.intro (t := 34) htop2.le callOk (by simp) (by decide) (fun w hw => hits_iter (hs.mono (lub.trans hw)) (ht.mono (lub.trans hw)) hqok (H.cell?_mono hw c0) (H.cell?_mono hw c1))
    (fun i w => TopAt ub n k w ((l.map (hitOf q)).take i).reverse) htop2 (fun i v hj => hj.le) ?_ ?_)
  · intro i y v hy hj
    refine topk_round n9 y v _ _ (by simp) fun m hm => st_new3 ⟨rfl, rfl, ?_⟩
    obtain ⟨d0, d1, d2⟩ := cells3 (u := v) (m := m) (y := y) (T := 62)
    have hj' := hj.mono (H.le_ins (u := v) (b := m) (Obj.cells (encH y).toArray 62 (0, 0)) hm)
    refine ⟨_, hcell9 _ hj'.le, _, d0, _, d1, _, d2, spec.topk_Heap__Offer hj' k1 k2 fun b u' hj2 => ⟨rfl, ?_⟩⟩
    rw [take_map_succ _ _ _ _ hy, List.reverse_append]
    exact hj2
  · intro v D hj hD
    have hle := H.le_ins (u := v) (b := D) (Obj.deferred (some [])) hD
    have hj' := hj.mono hle
    refine ⟨_, hcell9 _ hj'.le, spec.topk_Heap__List hj' fun s' u' ho => ⟨ho.le _ _ (H.ins_same _ _ _), hok hqok k1 k2 s' _ ?_⟩⟩
    have hb : s'.blk ≠ some D := fun e => by have := ho.fresh D e; rw [H.ins_same] at this; cases this
    have ho2 := ho.weaken (lub.trans hj'.le)
    rw [List.length_map, List.take_of_length_le (by simp), topk_eq (List.reverse_perm _)] at ho2
    exact ho2.insOut ((lub.trans hj.le).none hD) hb _

end Go.Proofs.YtgfafpiinencpaaGreat
