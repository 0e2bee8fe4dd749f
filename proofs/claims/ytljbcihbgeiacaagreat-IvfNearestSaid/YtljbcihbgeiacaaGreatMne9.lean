/- Texts of mine, joined by merge.py: VcPerm2, VcTrain2, VcIv8, VcIv9, VcLawF, VcOwn2, VcTable, VcTable2, VcIxIv, VcLawT1, VcOpen2, VcLawT3, VcLawT4, VcLawT5. -/
import Derived.Test.YtljbcihbgeiacaaGreatMne8
import Derived.Test.YtljbcihbgeiacaaGreatRows
import Derived.Deep.Strs
set_option maxRecDepth 100000

/- VcPerm2 -/
namespace Go.Proofs.YtljbcihbgeiacaaGreat

noncomputable abbrev permC : Code := rgCode (Tryz.f125.body.getD Go.Code.skip)

theorem permC_eq : permC = .rangeFunc (.tmp 31) #[32, 33] (rgA permC) (rgB permC) := by kernel_rfl

theorem perm_round (n4 : Nat) (i k : Int) (v : H) (J : H → Prop) (env : List (Nat × Value)) (he : (7, Value.pointer (some ⟨n4, 0, none⟩)) ∈ env)
    (h : (Exit.normal = Exit.normal) ∧ (([] : List (List Value)) = []) ∧ (∃ I0 : H, (H.le I0 v) ∧ (∃ s1 : Sl, ((H.cell? v (Addr.mk n4 0 none)) = (some (Value.slice s1.a s1.n s1.c))) ∧ (∃ s2 : Sl, ((H.cell? I0 (Addr.mk n4 0 none)) = (some (Value.slice s2.a s2.n s2.c))) ∧ (∃ s3 : Sl, ((H.cell? v (Addr.mk n4 0 none)) = (some (Value.slice s3.a s3.n s3.c))) ∧ (∃ r4 : Addr, (s3.a = (some r4)) ∧ ((((0 : Int) ≤ k) ∧ (k < (s3.n : Int))) ∧ (∃ x5 : Int, ((H.cell? v (Addr.add r4 ((Int.toNat k) * 1))) = (some (Value.int .i64 x5))) ∧ (∃ s6 : Sl, ((H.cell? v (Addr.mk n4 0 none)) = (some (Value.slice s6.a s6.n s6.c))) ∧ (∃ r7 : Addr, (s6.a = (some r7)) ∧ ((((0 : Int) ≤ i) ∧ (i < (s6.n : Int))) ∧ (∃ x8 : Int, ((H.cell? v (Addr.add r7 ((Int.toNat i) * 1))) = (some (Value.int .i64 x8))) ∧ (∃ r9 : Addr, (s1.a = (some r9)) ∧ ((((0 : Int) ≤ i) ∧ (i < (s1.n : Int))) ∧ (H.St v (Addr.add r9 ((Int.toNat i) * 1)) [(Value.int .i64 x5)] (fun (u10 : H) => (H.le I0 u10) ∧ (∃ r11 : Addr, (s2.a = (some r11)) ∧ ((((0 : Int) ≤ k) ∧ (k < (s2.n : Int))) ∧ (H.St u10 (Addr.add r11 ((Int.toNat k) * 1)) [(Value.int .i64 x8)] (fun (u12 : H) => (Exit.normal = Exit.normal) ∧ (J u12))))))))))))))))))))) :
    RoundOk2 Tryz.prog 49 (rgA permC) (rgB permC) env 32 33 (.int .i64 i) (.int .i64 k) v J :=
  RoundOk2.of (C := { P := Tryz.prog, exp := [], wrap := false, eqT := eqT, part := true }) (good _ _) (by kernel_rfl) (by kernel_rfl) [(32, .v (.int .i64 i)), (33, .v (.int .i64 k)), (7, .ptr ⟨n4, 0, none⟩)] (by
    intro p hp
    rcases List.mem_cons.1 hp with rfl | hp
    · exact ⟨_, rfl, .inl ⟨rfl, rfl⟩⟩
    · rcases List.mem_cons.1 hp with rfl | hp
      · exact ⟨_, rfl, .inr (.inl ⟨rfl, rfl⟩)⟩
      · rcases List.mem_cons.1 hp with rfl | hp
        · exact ⟨_, rfl, .inr (.inr ⟨show (7 : Nat) ≠ 32 by decide, show (7 : Nat) ≠ 33 by decide, he⟩)⟩
        · cases hp) (Eq.mp (by kernel_rfl) h)

theorem bChanges1 : hasBody Tryz.prog 196 = true := by kernel_rfl

def srcO (st : Int) : Obj := .cells #[.int .u64 st] 219 (0, 0)

/-- From place s.1 on: one step. -/
def NxP (s : Nat × Int) (y : Int × Int) (s' : Nat × Int) : Prop := ∃ m, s.1 = m + 1 ∧ y = ((m : Int) + 1, outS (nxS s.2) % ((m : Int) + 2)) ∧ s' = (m, nxS s.2)

theorem changes_iter {n0 n1 src : Nat} {n : Int} {st : Int} {u0 : H} (h0 : 0 ≤ n) (hn : n ≤ 65536) (c0 : u0 n0 = some (.cells #[.pointer (some ⟨src, 0, none⟩)] 186 (0, 0))) (c1 : u0 n1 = some (.cells #[.int .i64 n] 3 (0, 0))) :
    IterM Tryz.prog (.func (.func 196) #[] #[.pointer (some ⟨n1, 0, none⟩), .pointer (some ⟨n0, 0, none⟩)]) (fun y : Int × Int => .int .i64 y.1) (fun y => .int .i64 y.2) src (fun s : Nat × Int => srcO s.2) NxP ((n - 1).toNat, st) (fun s => s.1 = 0) u0 := by
  intro yv J hJ hy v K hv hK
  refine ⟨_, _, _, rfl, bodyOf bChanges1, vc.rand_Source__changes_1 yv ⟨n1, 0, none⟩ ⟨n0, 0, none⟩ v K ?_⟩
  refine ⟨n, H.cell?_of ((hJ _ _ hv).1 _ _ c1) 0, ⟨by omega, by omega⟩, fun x w => -1 ≤ x ∧ x ≤ 65535 ∧ ∃ st, J (x.toNat, st) w, fun x _ => x.toNat, ⟨by omega, by omega, st, hv⟩, ?_⟩
  rintro x w ⟨x0, x1, st, hw⟩
  refine ⟨fun hx => ?_, fun hx => hK (x.toNat, st) w (by show x.toNat = 0; omega) hw⟩
  obtain ⟨hle, hsrc⟩ := hJ _ _ hw
  refine ⟨_, H.cell?_of (hle _ _ c0) 0, spec.rand_Next hsrc ?_⟩
  obtain ⟨e1, e2⟩ := below_eq (n := x + 1) (outS_U (nxS st)) (by omega) (by omega)
  refine ⟨⟨by omega, by omega⟩, e1, .inr ?_⟩
  rw [e2]
  have hm : x.toNat = (x.toNat - 1) + 1 := by omega
  have := hy (x.toNat, st) (((x.toNat - 1 : Nat) : Int) + 1, outS (nxS st) % (((x.toNat - 1 : Nat) : Int) + 2)) (x.toNat - 1, nxS st) w (fun b8 u9 => ((¬ (b8 = Bool.true)) → K u9) ∧ ((b8 = Bool.true) → (InR (x - 1)) ∧ ((-1 ≤ x - 1 ∧ x - 1 ≤ 65535 ∧ ∃ st, J ((x - 1).toNat, st) u9) ∧ ((x - 1).toNat < x.toNat))))
    ⟨_, hm, rfl, rfl⟩ hw fun v' hv' => ⟨fun h => absurd rfl h, fun _ => ⟨⟨by omega, by omega⟩, ⟨by omega, by omega, nxS st, by rw [show (x - 1).toNat = x.toNat - 1 by omega]; exact hv'⟩, by omega⟩⟩
  simp only at this
  rw [show ((x.toNat - 1 : Nat) : Int) + 1 = x by omega, show ((x.toNat - 1 : Nat) : Int) + 2 = x + 1 by omega] at this
  exact this

theorem spec.rand_Perm {src : Nat} {st n : Int} {ub u : H} {K : Sl → Int → H → Prop} (h : u src = some (srcO st)) (hub : ub.le u) (hsb : ub src = none) (h0 : 0 ≤ n) (hn : n ≤ 65536)
    (hK : ∀ s' u', OwnF ub u' 3 1 s' ((permF st n.toNat).flatMap encI) → K s' 0 u') : C.rand_Source__Perm (some ⟨src, 0, none⟩) n u K := by
  apply vc.rand_Source__Perm
  apply vc.rand_Source__may
  refine ⟨fun h => (by cases h), fun _ => ⟨fun h => by omega, fun _ => ⟨fun h => by omega, fun _ => ⟨fun h => absurd rfl h, fun _ => ?_⟩⟩⟩⟩
  refine sem_make tInts h0 (Int.le_refl _) (by omega) (by omega) fun g hg => ?_
  have ho0 := OwnF.make (k := 1) hub hg (cells := madeCells [Value.int .i64 0].toArray (n.toNat * 1)) (e := 3) (n := n.toNat) (by omega) (by
    have := congrArg List.length (made_flat (enc := encI) encI_len (by decide) 0 n.toNat)
    rw [Array.length_toList] at this
    rw [flat_len encI_len] at this
    simpa [encI] using this)
  have hmade : (madeCells [Value.int .i64 0].toArray (n.toNat * 1)).toList = (List.replicate n.toNat (0 : Int)).flatMap encI := made_flat (enc := encI) encI_len (by decide) 0 n.toNat
  rw [hmade] at ho0
  obtain ⟨u3, hu3⟩ : ∃ u3, u3 = u.ins g (.cells (madeCells [Value.int .i64 0].toArray (n.toNat * 1)) 3 (0, 0)) := ⟨_, rfl⟩
  rw [← hu3] at ho0 ⊢
  have hs3 : u3 src = some (srcO st) := by rw [hu3, H.ins_other _ _ (fun e => by rw [← e, h] at hg; cases hg)]; exact h
  have hgs : (⟨some ⟨g, 0, none⟩, n.toNat, n.toNat⟩ : Sl).blk ≠ some src := fun e => by
    have : g = src := by simpa [Sl.blk] using e
    rw [this, h] at hg; cases hg
  have hnn : ((⟨some ⟨g, 0, none⟩, n.toNat, n.toNat⟩ : Sl).n : Int) = n := by show ((n.toNat : Nat) : Int) = n; omega
  obtain ⟨sl, hsl⟩ : ∃ sl : Sl, sl = ⟨some ⟨g, 0, none⟩, n.toNat, n.toNat⟩ := ⟨_, rfl⟩
  have hsla : sl.a = some ⟨g, 0, none⟩ := by rw [hsl]
  rw [← hsl] at ho0 hgs hnn ⊢
  have hslb : sl.blk = some g := by simp [Sl.blk, hsla]
  intro n4 hn4
  have hn4g : sl.blk ≠ some n4 := fun e => own_known ho0 e hn4
  have hn4s : n4 ≠ src := fun e => by rw [e, hs3] at hn4; cases hn4
  refine st_new (zs := [.slice none 0 0]) rfl (by simp [Value.oneCell']) ?_
  obtain ⟨u5, hu5⟩ : ∃ u5, u5 = u3.ins n4 (.cells [.slice sl.a sl.n sl.c].toArray 41 (0, 0)) := ⟨_, rfl⟩
  rw [← hu5]
  have l35 : u3.le u5 := by rw [hu5]; exact H.le_ins _ hn4
  have c4 : u5 n4 = some (.cells #[.slice sl.a sl.n sl.c] 41 (0, 0)) := by rw [hu5]; exact H.ins_same _ _ _
  have hub4 : ub n4 = none := ho0.le.none hn4
  refine ⟨sl, H.cell?_of c4 0, fun x w => 0 ≤ x ∧ x ≤ n ∧ w src = some (srcO st) ∧ w n4 = some (.cells #[.slice sl.a sl.n sl.c] 41 (0, 0)) ∧ OwnF ub w 3 1 sl ((numsL x.toNat ++ List.replicate (n.toNat - x.toNat) 0).flatMap encI), fun x _ => (n - x).toNat,
    ⟨by omega, by omega, l35 _ _ hs3, c4, by simpa [numsL] using ho0.mono l35⟩, ?_⟩
  rintro x w ⟨x0, x1, hsw, h4w, ho⟩
  have hll : (numsL x.toNat ++ List.replicate (n.toNat - x.toNat) (0 : Int)).length = n.toNat := by simp [numsL]; omega
  refine ⟨fun hx => ?_, fun hx => ?_⟩
  · refine ⟨sl, H.cell?_of h4w 0, _, hsla, ⟨x0, hx⟩, ?_⟩
    refine OwnF.store (enc := encI) encI_len ho (by decide) (i := x.toNat) (by rw [hll]; omega) (y := x) (by simp [encI, Value.oneCell']) hsla fun u13 ho13 he13 _ => ⟨⟨by omega, by omega⟩, ⟨by omega, by omega, he13 _ _ hsw hgs, he13 _ _ h4w hn4g, ?_⟩, by dsimp only; omega⟩
    have hset : (numsL x.toNat ++ List.replicate (n.toNat - x.toNat) (0 : Int)).set x.toNat x = numsL (x + 1).toNat ++ List.replicate (n.toNat - (x + 1).toNat) 0 := by
      have e1 : n.toNat - x.toNat = (n.toNat - (x + 1).toNat) + 1 := by omega
      have e2 : (numsL x.toNat).length = x.toNat := by simp [numsL]
      have e3 : numsL (x + 1).toNat = numsL x.toNat ++ [x] := by
        rw [show (x + 1).toNat = x.toNat + 1 by omega]
        unfold numsL
        rw [List.range_succ, List.map_append, List.map_singleton, Int.toNat_of_nonneg x0]
      rw [e1, List.replicate_succ]
      have e4 := set_mid (numsL x.toNat) 0 x (List.replicate (n.toNat - (x + 1).toNat) 0)
      rw [e2] at e4
      rw [e4, e3, List.append_assoc]
      rfl
    rw [hset] at ho13
    exact ho13
  · have hxn : x = n := by omega
    subst hxn
    rw [Nat.sub_self, List.replicate_zero, List.append_nil] at ho
    apply vc.rand_Source__changes
    intro n0 hn0 n1 hn1
    obtain ⟨o0, ho0'⟩ : ∃ o0, o0 = (Obj.cells #[Value.pointer (some ⟨src, 0, none⟩)] 186 (0, 0)) := ⟨_, rfl⟩
    obtain ⟨o1, ho1'⟩ : ∃ o1, o1 = (Obj.cells #[Value.int .i64 x] 3 (0, 0)) := ⟨_, rfl⟩
    rw [← ho0'] at hn1 ⊢
    rw [← ho1']
    have hn01 : n0 ≠ n1 := fun e => by rw [← e, H.ins_same] at hn1; cases hn1
    have hn1w : w n1 = none := by rw [H.ins_other _ _ (Ne.symm hn01)] at hn1; exact hn1
    have lw : w.le ((w.ins n0 o0).ins n1 o1) := (H.le_ins _ hn0).trans (H.le_ins _ hn1)
    obtain ⟨u15, hu15⟩ : ∃ u15, u15 = (w.ins n0 o0).ins n1 o1 := ⟨_, rfl⟩
    rw [← hu15] at lw ⊢
    have d0 : u15 n0 = some o0 := by rw [hu15, H.ins_other _ _ hn01, H.ins_same]
    have d1 : u15 n1 = some o1 := by rw [hu15, H.ins_same]
    let ubI : H := fun c => if c = n0 then some o0 else if c = n1 then some o1 else none
    have i0 : ubI n0 = some o0 := if_pos rfl
    have i1 : ubI n1 = some o1 := by
      show (if n1 = n0 then _ else _) = _
      rw [if_neg (Ne.symm hn01), if_pos rfl]
    have ile : ∀ v : H, v n0 = some o0 → v n1 = some o1 → ubI.le v := fun v h0 h1 c o hc => by
      by_cases e0 : c = n0
      · subst e0; rw [i0] at hc; cases hc; exact h0
      · by_cases e1 : c = n1
        · subst e1; rw [i1] at hc; cases hc; exact h1
        · have : ubI c = none := by
            show (if c = n0 then _ else _) = _
            rw [if_neg e0, if_neg e1]
          rw [this] at hc; cases hc
    have n0s : n0 ≠ src := fun e => by rw [e, hsw] at hn0; cases hn0
    have n1s : n1 ≠ src := fun e => by rw [e, hsw] at hn1w; cases hn1w
    have n0sl : sl.blk ≠ some n0 := fun e => own_known ho e hn0
    have n1sl : sl.blk ≠ some n1 := fun e => own_known ho e hn1w
    refine RgS.code2 permC_eq (RgS.introM (fv := .func (.func 196) #[] #[.pointer (some ⟨n1, 0, none⟩), .pointer (some ⟨n0, 0, none⟩)]) (t := 31) (x := 32) (x2 := 33) (src := src) (cell := fun s : Nat × Int => srcO s.2) (Nx := NxP) (s0 := ((x - 1).toNat, st)) (En := fun s => s.1 = 0) (enc := fun y : Int × Int => .int .i64 y.1) (enc2 := fun y => .int .i64 y.2)
      (ile u15 d0 d1) callOk (by simp) (by decide) (by decide) (by decide) (fun u0 hu0 => changes_iter (st := st) h0 hn (by rw [← ho0']; exact hu0 _ _ i0) (by rw [← ho1']; exact hu0 _ _ i1))
      (fun s v => v src = some (srcO s.2) ∧ v n0 = some o0 ∧ v n1 = some o1 ∧ v n4 = some (.cells #[.slice sl.a sl.n sl.c] 41 (0, 0)) ∧ s.1 ≤ x.toNat - 1 ∧ ∃ l : List Int, l.length = x.toNat ∧ OwnF ub v 3 1 sl (l.flatMap encI) ∧ permA s.1 s.2 l = permF st x.toNat)
      ⟨lw _ _ hsw, d0, d1, lw _ _ h4w, by show (x - 1).toNat ≤ _; omega, numsL x.toNat, by simp [numsL], ho.mono lw, by
        show permA (x - 1).toNat st _ = _
        unfold permF
        rw [show (x - 1).toNat = x.toNat - 1 by omega]⟩ (fun s v hv => ile v hv.2.1 hv.2.2.1) (fun s v hv => hv.1) ?_ ?_)
    · rintro ⟨i, sti⟩ y s' v ⟨m, hm, rfl, rfl⟩ ⟨a1, a2, a3, a4, a5, l, hl, hol, hp⟩
      simp only at hm a1 a5 hp
      subst hm
      obtain ⟨kk, hkk⟩ : ∃ kk, kk = outS (nxS sti) % ((m : Int) + 2) := ⟨_, rfl⟩
      have h3 := Int.emod_nonneg (outS (nxS sti)) (show (m : Int) + 2 ≠ 0 by omega)
      have h4 := Int.emod_lt_of_pos (outS (nxS sti)) (show 0 < (m : Int) + 2 by omega)
      show RoundOk2 _ _ _ _ _ _ _ (.int .i64 ((m : Int) + 1)) (.int .i64 (outS (nxS sti) % ((m : Int) + 2))) _ _
      rw [← hkk] at h3 h4 ⊢
      refine perm_round n4 _ _ _ _ _ (by simp) ⟨rfl, rfl, ?_⟩
      -- the source is another block
      have ub0 : (v.ins src (srcO (nxS sti))) n4 = some (.cells #[.slice sl.a sl.n sl.c] 41 (0, 0)) := by rw [H.ins_other _ _ hn4s]; exact a4
      have hov : OwnF ub (v.ins src (srcO (nxS sti))) 3 1 sl (l.flatMap encI) := ⟨hol.own.le fun c o hc hu => by rw [H.ins_other _ _ (fun e => hgs (by rw [hc, e]))]; exact hu, fun c o hc => by
        rw [H.ins_other _ _ (fun e => by rw [e, hsb] at hc; cases hc)]; exact hol.le c o hc, hol.fresh⟩
      obtain ⟨vv, hvv⟩ : ∃ vv, vv = v.ins src (srcO (nxS sti)) := ⟨_, rfl⟩
      have vs : vv src = some (srcO (nxS sti)) := by rw [hvv]; exact H.ins_same _ _ _
      have v0 : vv n0 = some o0 := by rw [hvv, H.ins_other _ _ n0s]; exact a2
      have v1 : vv n1 = some o1 := by rw [hvv, H.ins_other _ _ n1s]; exact a3
      show ∃ I0 : H, I0.le (v.ins src (srcO (nxS sti))) ∧ _
      rw [← hvv] at ub0 hov ⊢
      have hsn : sl.n = l.length := flat_n encI_len (by decide) hov.own.seg
      have hml : m + 1 < l.length := by omega
      have hkl : kk.toNat < l.length := by omega
      have at' : ∀ {z : H} {l' : List Int} (j : Int), OwnF ub z 3 1 sl (l'.flatMap encI) → 0 ≤ j → j.toNat < l'.length → z.cell? (Addr.add ⟨g, 0, none⟩ (j.toNat * 1)) = some (.int .i64 (l'.getD j.toNat 0)) := fun {z l'} j hz j0 hj => by
        obtain ⟨p, hp, hc⟩ := Seg.elem encI_len (by decide) hz.own.seg (List.getElem?_eq_getElem hj)
        rw [hsla] at hp
        cases hp
        have := hc 0 _ rfl
        rw [Addr.add_zero'] at this
        rw [this, List.getD_eq_getElem?_getD, List.getElem?_eq_getElem hj]
        rfl
      have c4v : vv.cell? ⟨n4, 0, none⟩ = some (.slice sl.a sl.n sl.c) := H.cell?_of ub0 0
      have c4i : (H.sans vv sl).cell? ⟨n4, 0, none⟩ = some (.slice sl.a sl.n sl.c) := by
        unfold H.cell? at c4v ⊢
        simp only [sans_at hn4g]
        exact c4v
      refine ⟨H.sans vv sl, sans_le _ _, sl, c4v, sl, c4i, sl, c4v, _, hsla, ⟨h3, by omega⟩, _, at' kk hov h3 hkl, sl, c4v, _, hsla, ⟨by omega, by omega⟩, _, at' ((m : Int) + 1) hov (by omega) (by omega), _, hsla, ⟨by omega, by omega⟩, ?_⟩
      refine OwnF.store (enc := encI) encI_len hov (by decide) (i := ((m : Int) + 1).toNat) (by omega) (y := l.getD kk.toNat 0) (by simp [encI, Value.oneCell']) hsla fun u10 ho10 he10 _ => ⟨fun c o hc => he10 c o (sans_of hc).1 (sans_of hc).2, _, hsla, ⟨h3, by omega⟩, ?_⟩
      refine OwnF.store (enc := encI) encI_len ho10 (by decide) (i := kk.toNat) (by rw [List.length_set]; exact hkl) (y := l.getD ((m : Int) + 1).toNat 0) (by simp [encI, Value.oneCell']) hsla fun u12 ho12 he12 _ => ⟨rfl, ?_⟩
      have st2 : ∀ c o, vv c = some o → sl.blk ≠ some c → u12 c = some o := fun c o hc hne => he12 c o (he10 c o hc hne) hne
      refine ⟨st2 _ _ vs hgs, st2 _ _ v0 n0sl, st2 _ _ v1 n1sl, st2 _ _ ub0 hn4g, by show m ≤ _; omega, _, by rw [List.length_set, List.length_set]; exact hl, ho12, ?_⟩
      have esw : (l.set ((m : Int) + 1).toNat (l.getD kk.toNat 0)).set kk.toNat (l.getD ((m : Int) + 1).toNat 0) = swapL l (m + 1) kk.toNat := by
        rw [swapL_eq hml hkl, show ((m : Int) + 1).toNat = m + 1 by omega, List.getD_eq_getElem?_getD, List.getD_eq_getElem?_getD, List.getElem?_eq_getElem hml, List.getElem?_eq_getElem hkl]
        rfl
      rw [esw, ← hp]
      show permA m (nxS sti) _ = permA (m + 1) sti l
      conv => rhs; unfold permA
      rw [hkk]
    · rintro ⟨i, sti⟩ v D hi ⟨a1, a2, a3, a4, a5, l, hl, hol, hp⟩ hD
      simp only at hi hp
      subst hi
      have hle := H.le_ins (u := v) (b := D) (Obj.deferred (some [])) hD
      refine ⟨sl, H.cell?_of (hle _ _ a4) 0, H.ins_same _ _ _, hK sl _ ?_⟩
      have hD2 : sl.blk ≠ some D := fun e => own_known hol e hD
      have hp' : l = permF st x.toNat := hp
      rw [hp'] at hol
      have hub' := hol.le.none hD
      have := (hol.mono hle).insOut hub' hD2 (.deferred none)
      exact this

end Go.Proofs.YtljbcihbgeiacaaGreat

/- VcTrain2 -/
namespace Go.Proofs.YtljbcihbgeiacaaGreat

def iterI (d : Nat) (vs : List (List Int)) : Nat → List (List Int) → List (List Int)
  | 0, c => c
  | n + 1, c => roundI d vs (iterI d vs n c)

def startI (seed : Int) (k : Nat) (vs : List (List Int)) : List (List Int) := ((permF seed vs.length).take k).map fun i => vs.getD i.toNat []
def trainI (seed : Int) (k rounds d : Nat) (vs : List (List Int)) : List (List Int) := iterI d vs rounds (startI seed k vs)

theorem permF_mem {st : Int} {n : Nat} {x : Int} (h : x ∈ permF st n) : 0 ≤ x ∧ x < n := by
  have := (permF_perm st n).mem_iff.1 h
  unfold numsL at this
  obtain ⟨i, hi, rfl⟩ := List.mem_map.1 this
  have := List.mem_range.1 hi
  omega

theorem permF_len (st : Int) (n : Nat) : (permF st n).length = n := by
  have := (permF_perm st n).length_eq
  simpa [numsL] using this

theorem startI_len {seed : Int} {k : Nat} {vs : List (List Int)} (h : k ≤ vs.length) : (startI seed k vs).length = k := by
  unfold startI
  rw [List.length_map, List.length_take, permF_len]
  omega

theorem startI_get {seed : Int} {k : Nat} {vs : List (List Int)} {i : Nat} {x : Int} (h : i < k) (hx : (permF seed vs.length)[i]? = some x) : (startI seed k vs)[i]? = some (vs.getD x.toNat []) := by
  unfold startI
  rw [List.getElem?_map, List.getElem?_take, if_pos h, hx]
  rfl

theorem VcsO.rebase {u0 u : H} {s : Sl} {cs : List (Sl × List Int)} (h : VcsO u0 u s cs) {n : Nat} (hn : u n = .none) (o : Obj) : VcsO (u0.ins n o) (u.ins n o) s cs := ⟨h.own.rebase hn o, fun c hc => (h.inner c hc).rebase hn o, h.far, h.apart⟩

theorem bTrain1 : hasBody Tryz.prog 126 = true := by kernel_rfl

theorem spec.kmeans_Train {u : H} {s : Sl} {L : List (Sl × List Int)} {d : Nat} {k rounds seed : Int} {K : Sl → Int → H → Prop} (h : VcsAt u s L) (hok : ∀ c ∈ L, c.2.length = d ∧ vok c.2) (hd : 1 ≤ d ∧ d ≤ 64) (hfew : L.length ≤ 512) (hk : 1 ≤ k ∧ k ≤ 64) (hkl : k ≤ L.length) (hr : 0 ≤ rounds ∧ rounds ≤ 20)
    (hK : ∀ s' u' cs, VcsO u u' s' cs → cs.map (·.2) = trainI seed k.toNat rounds.toNat d (L.map (·.2)) → K s' 0 u') : C.kmeans_Train s k rounds seed u K := by
  have hn := h.len
  obtain ⟨vs, hvs⟩ : ∃ vs, vs = L.map (·.2) := ⟨_, rfl⟩
  have hvl : vs.length = L.length := by rw [hvs, List.length_map]
  apply vc.kmeans_Train
  intro n0 hn0 n1 hn1
  obtain ⟨o0, ho0⟩ : ∃ o0, o0 = (Obj.cells #[Value.slice s.a s.n s.c] 68 (0, 0)) := ⟨_, rfl⟩
  obtain ⟨o1, ho1⟩ : ∃ o1, o1 = (Obj.cells #[Value.int .i64 k] 3 (0, 0)) := ⟨_, rfl⟩
  rw [← ho0] at hn1 ⊢
  rw [← ho1]
  have hn01 : n0 ≠ n1 := fun e => by rw [← e, H.ins_same] at hn1; cases hn1
  obtain ⟨u1, hu1⟩ : ∃ u1, u1 = (u.ins n0 o0).ins n1 o1 := ⟨_, rfl⟩
  have lu1 : u.le u1 := by rw [hu1]; exact (H.le_ins _ hn0).trans (H.le_ins _ hn1)
  have d0 : u1 n0 = some o0 := by rw [hu1, H.ins_other _ _ hn01, H.ins_same]
  have d1 : u1 n1 = some o1 := by rw [hu1, H.ins_same]
  rw [← hu1]
  have c0 : ∀ {w : H}, u1.le w → w.cell? ⟨n0, 0, none⟩ = some (.slice s.a s.n s.c) := fun hw => by
    have := hw _ _ d0
    rw [ho0] at this
    exact H.cell?_of this 0
  have c1 : ∀ {w : H}, u1.le w → w.cell? ⟨n1, 0, none⟩ = some (.int .i64 k) := fun hw => by
    have := hw _ _ d1
    rw [ho1] at this
    exact H.cell?_of this 0
  intro K2 h2
  have r1 := H.le.refl u1
  refine ⟨k, c1 r1, fun hx => by omega, fun _ => ⟨k, c1 r1, fun hx => by omega, fun _ => ⟨fun hx => by omega, fun _ => ?_⟩⟩⟩
  have hdec : decide ((20 : Int) < rounds) = false := decide_eq_false (by omega)
  rw [hdec]
  refine h2 _ _ ⟨fun e => (by cases e), fun _ => ⟨s, c0 r1, fun hx => by omega, fun _ => ⟨s, c0 r1, k, c1 r1, fun hx => by omega, fun _ => ⟨s, c0 r1, ?_⟩⟩⟩⟩
  have h1 := h.mono lu1
  obtain ⟨p, hp, c, hc, hcm, cc, hci⟩ := h1.at (x := 0) (by omega) (by omega)
  obtain ⟨cl, cv⟩ := hok c hcm
  have hcn := hci.len
  refine ⟨p, hp, ⟨by omega, by omega⟩, c.1, cc, ?_⟩
  intro n11 hn11
  refine st_new (zs := [.int .i64 0]) rfl (by simp [Value.oneCell']) ?_
  obtain ⟨o11, ho11⟩ : ∃ o11, o11 = (Obj.cells [Value.int .i64 (c.1.n : Int)].toArray 3 (0, 0)) := ⟨_, rfl⟩
  rw [← ho11]
  obtain ⟨u12, hu12⟩ : ∃ u12, u12 = u1.ins n11 o11 := ⟨_, rfl⟩
  rw [← hu12]
  have l12 : u1.le u12 := by rw [hu12]; exact H.le_ins _ hn11
  have d11 : u12 n11 = some o11 := by rw [hu12, H.ins_same]
  have c11 : ∀ {w : H}, u12.le w → w.cell? ⟨n11, 0, none⟩ = some (.int .i64 d) := fun hw => by
    have := hw _ _ d11
    rw [ho11] at this
    have := H.cell?_of this 0
    rw [this, show ((c.1.n : Nat) : Int) = (d : Int) by omega]
    rfl
  refine ⟨s, c0 l12, (d : Int), c11 (H.le.refl _), ?_⟩
  have h12 := h1.mono l12
  refine spec.kmeans_all h12 (d := (d : Int)) (by omega) (fun c hc => ⟨by have := (hok c hc).1; omega, (hok c hc).2⟩) (by omega) ⟨fun hx => absurd rfl hx, fun _ => ⟨s, c0 l12, ?_⟩⟩
  refine vc.rand_New _ _ _ fun src hsrc => ⟨H.le_ins _ hsrc, ?_⟩
  have hul : u.le u12 := lu1.trans l12
  refine spec.rand_Perm (st := seed) (ub := u12) (H.ins_same _ _ _) (H.le_ins _ hsrc) hsrc (by omega) (by omega) fun s20 u22 hP => ?_
  have l22 := hP.le
  refine ⟨k, c1 (l12.trans l22), sem_make_vecs (by omega) (by omega) fun s24 u25 hC0 hs24 => ?_⟩
  intro n26 hn26
  refine st_new (zs := [.slice none 0 0]) rfl (by simp [Value.oneCell']) ?_
  obtain ⟨o26, ho26⟩ : ∃ o26, o26 = (Obj.cells [Value.slice s24.a s24.n s24.c].toArray 68 (0, 0)) := ⟨_, rfl⟩
  rw [← ho26]
  have hC := hC0.rebase hn26 o26
  obtain ⟨ub, hub⟩ : ∃ ub, ub = u22.ins n26 o26 := ⟨_, rfl⟩
  rw [← hub] at hC
  have hn22 : u22 n26 = none := hC0.own.le.none hn26
  have l22b : u22.le ub := by rw [hub]; exact H.le_ins _ hn22
  have c26 : ∀ {w : H}, ub.le w → w.cell? ⟨n26, 0, none⟩ = some (.slice s24.a s24.n s24.c) := fun hw => by
    have : ub n26 = some o26 := by rw [hub]; exact H.ins_same _ _ _
    have := hw _ _ this
    rw [ho26] at this
    exact H.cell?_of this 0
  have lb : u12.le ub := l22.trans l22b
  have hPb := hP.mono l22b
  have hPi := hPb.ints
  rw [show ((s.n : Nat) : Int).toNat = vs.length by omega] at hPi
  have hPn := hPi.len
  rw [permF_len] at hPn
  have hlenC : s24.n = k.toNat := by omega
  refine ⟨s24, c26 hC.own.le, fun x w => 0 ≤ x ∧ x ≤ k ∧ ∃ cs, VcsO ub w s24 cs ∧ cs.length = k.toNat ∧ ∀ (a : Nat) c, cs[a]? = some c → (a : Int) < x → (startI seed k.toNat vs)[a]? = some c.2, fun x _ => (k - x).toNat,
    ⟨by omega, by omega, _, hC, by simp, fun a c _ hx => by omega⟩, ?_⟩
  rintro x w ⟨x0, x1, cs, hcs, hcl, hcv⟩
  have lw := hcs.own.le
  refine ⟨fun hx => ?_, fun hx => ?_⟩
  · obtain ⟨pp, hpp, hcx⟩ := (hPi.mono lw).at (x := x) x0 (by omega)
    have hxl : x.toNat < (permF seed vs.length).length := by rw [permF_len]; omega
    obtain ⟨y, hy⟩ : ∃ y, (permF seed vs.length)[x.toNat]? = some y := ⟨_, List.getElem?_eq_getElem hxl⟩
    obtain ⟨y0, y1⟩ := permF_mem (List.mem_of_getElem? hy)
    have eg : (permF seed vs.length).getD x.toNat 0 = y := by rw [List.getD_eq_getElem?_getD, hy]; rfl
    rw [eg] at hcx
    obtain ⟨q, hq, z, hz, hzm, cz, hzi⟩ := (h12.mono (lb.trans lw)).at (x := y) y0 (by omega)
    obtain ⟨zl, zv⟩ := hok z hzm
    have hzn := hzi.len
    have hxc : x.toNat < cs.length := by omega
    obtain ⟨p4, hp4, _⟩ := hcs.vcs.at x0 (by rw [hcs.len]; omega)
    have evs : vs.getD y.toNat [] = z.2 := by rw [hvs, List.getD_eq_getElem?_getD, List.getElem?_map, hz]; rfl
    refine ⟨pp, hpp, ⟨x0, by omega⟩, s24, c26 lw, s, c0 (l12.trans (lb.trans lw)), y, hcx, q, hq, ⟨y0, by omega⟩, z.1, cz, spec.slices_Clone___int_int_ hzi (by omega) fun s39 u40 ho40 _ => ⟨ho40.le, p4, hp4, ⟨x0, by omega⟩, ?_⟩⟩
    refine hcs.put ho40 hxc hp4 fun u42 hcs' _ => ⟨⟨by omega, by omega⟩, ⟨by omega, by omega, _, hcs', by rw [List.length_set]; exact hcl, fun a c hac hax => ?_⟩, by dsimp only; omega⟩
    rcases get_set hac with ⟨rfl, rfl⟩ | ⟨e, hac⟩
    · rw [startI_get (by omega) hy, evs]
    · exact hcv a c hac (by omega)
  · have hstart : cs.map (·.2) = startI seed k.toNat vs := by
      apply List.ext_getElem?
      intro a
      by_cases ha : a < k.toNat
      · have hca : cs[a]? = some cs[a] := List.getElem?_eq_getElem (by omega)
        rw [hcv a _ hca (by omega), List.getElem?_map, hca]
        rfl
      · rw [List.getElem?_eq_none (by rw [List.length_map]; omega), List.getElem?_eq_none (by rw [startI_len (by omega)]; omega)]
    have hIn : RoundIn ub n1 n11 n0 n26 k.toNat d s s24 L := ⟨by rw [c1 (l12.trans lb), Int.toNat_of_nonneg (by omega)], c11 lb, c0 (l12.trans lb), c26 (H.le.refl _), h12.mono lb, hok, hfew, hd, by omega⟩
    have hvok : ∀ v ∈ vs, v.length = d ∧ vok v := fun v hv => by rw [hvs] at hv; obtain ⟨c, hc, rfl⟩ := List.mem_map.1 hv; exact hok c hc
    have hok0 : ∀ c ∈ startI seed k.toNat vs, c.length = d ∧ vok c := fun c hc => by
      unfold startI at hc
      obtain ⟨i, hi, rfl⟩ := List.mem_map.1 hc
      obtain ⟨i0, i1⟩ := permF_mem (List.mem_of_mem_take hi)
      have : vs.getD i.toNat [] ∈ vs := by
        rw [List.getD_eq_getElem?_getD, List.getElem?_eq_getElem (by omega)]
        exact List.getElem_mem _
      exact hvok _ this
    refine ⟨fun x w => 0 ≤ x ∧ x ≤ rounds ∧ ∃ cs, VcsO ub w s24 cs ∧ cs.length = k.toNat ∧ cs.map (·.2) = iterI d vs x.toNat (startI seed k.toNat vs) ∧ ∀ c ∈ cs, c.2.length = d ∧ vok c.2, fun x _ => (rounds - x).toNat,
      ⟨by omega, by omega, cs, hcs, hcl, hstart, fun c hc => hok0 _ (by rw [← hstart]; exact List.mem_map_of_mem hc)⟩, ?_⟩
    rintro y w2 ⟨y0, y1, ds, hds, hdl, hdv, hdok⟩
    refine ⟨fun hy => .inl ⟨_, _, _, rfl, bodyOf bTrain1, ?_⟩, fun hy => ?_⟩
    · refine spec.kmeans_round hIn hds hdl hdok fun u47 es hes hev => ⟨⟨by omega, by omega⟩, ⟨by omega, by omega, es, hes, ?_, ?_, fun c hc => ?_⟩, by dsimp only; omega⟩
      · have := congrArg List.length hev
        rw [List.length_map, roundI_len, List.length_map] at this
        omega
      · rw [hev, show (y + 1).toNat = y.toNat + 1 by omega, ← hvs, hdv]
        rfl
      · have : c.2 ∈ roundI d (L.map (·.2)) (ds.map (·.2)) := by rw [← hev]; exact List.mem_map_of_mem hc
        rw [← hvs] at this
        exact roundI_ok (fun v hv => (hvok v hv).2) hd.2 (fun c hc => by obtain ⟨z, hz, rfl⟩ := List.mem_map.1 hc; exact hdok z hz) _ this
    · refine ⟨s24, c26 hds.own.le, hK s24 w2 ds (hds.weaken (hul.trans lb)) ?_⟩
      rw [hdv, show y.toNat = rounds.toNat by omega, ← hvs]
      rfl

end Go.Proofs.YtljbcihbgeiacaaGreat

/- VcIv8 -/
namespace Go.Proofs.YtljbcihbgeiacaaGreat.Iv

theorem ids_pr' (l : List Rw) : l.map (·.id) = (l.map Rw.pr).map (·.1) := by rw [List.map_map]; rfl
theorem rok_all' {L : List Rw} {d : Int} (h : Rok L d) {r : Rw} (hp : r.pr ∈ L.map Rw.pr) : (1 ≤ r.id ∧ r.id ≤ 1000000000) ∧ (r.v.length : Int) = d ∧ vok r.v := by
  obtain ⟨z, hz, e⟩ := List.mem_map.1 hp
  have e1 : z.id = r.id := congrArg Prod.fst e
  have e2 : z.v = r.v := congrArg Prod.snd e
  rw [← e1, ← e2]
  exact ⟨h.id z hz, h.v z hz⟩

/-- The error of building. -/
def ixErr (l : List Rw) (dim a b : Int) : Int := if rcheck l dim ≠ 0 then rcheck l dim else if a < 1 ∨ 64 < a ∨ b < 0 ∨ 20 < b then 1 else 0

/-- The centres of some vectors. -/
def centI (seed a b : Int) (d : Nat) (vs : List (List Int)) : List (List Int) := if vs = [] then [List.replicate d 0] else trainI seed (if (vs.length : Int) < a then (vs.length : Int) else a).toNat b.toNat d vs

theorem build_vec1 (s : Sl) : buildOf Tryz.prog 68 1 #[(0, .slice s.a s.n s.c)] = some (41, [.slice s.a s.n s.c]) := by kernel_rfl

theorem iterI_ok {d : Nat} {vs : List (List Int)} (hv : ∀ v ∈ vs, vok v) (hd : d ≤ 64) : ∀ (n : Nat) (cs : List (List Int)), (∀ c ∈ cs, c.length = d ∧ vok c) → (∀ c ∈ iterI d vs n cs, c.length = d ∧ vok c) ∧ (iterI d vs n cs).length = cs.length := by
  intro n
  induction n with
  | zero => intro cs h; exact ⟨h, rfl⟩
  | succ n ih =>
    intro cs h
    obtain ⟨h1, h2⟩ := ih cs h
    exact ⟨roundI_ok hv hd h1, by show (roundI _ _ _).length = _; rw [roundI_len, h2]⟩

theorem centI_ok {seed a b : Int} {d : Nat} {vs : List (List Int)} (hv : ∀ v ∈ vs, v.length = d ∧ vok v) (hd : 1 ≤ d ∧ d ≤ 64) (ha : 1 ≤ a ∧ a ≤ 64) : (∀ c ∈ centI seed a b d vs, c.length = d ∧ vok c) ∧ 0 < (centI seed a b d vs).length ∧ (centI seed a b d vs).length ≤ 64 := by
  unfold centI
  by_cases h0 : vs = []
  · rw [if_pos h0]
    refine ⟨fun c hc => ?_, by simp, by simp⟩
    rw [List.mem_singleton.1 hc]
    refine ⟨by simp, by simp; omega, fun i hi => ?_⟩
    rw [List.length_replicate] at hi
    rw [List.getD_eq_getElem?_getD, List.getElem?_replicate, if_pos hi]
    decide
  · rw [if_neg h0]
    have hp := List.length_pos_iff.2 h0
    obtain ⟨k, hk⟩ : ∃ k, k = (if (vs.length : Int) < a then (vs.length : Int) else a).toNat := ⟨_, rfl⟩
    have hk1 : 1 ≤ k ∧ k ≤ 64 ∧ k ≤ vs.length := by rw [hk]; split <;> omega
    rw [← hk]
    have hst : ∀ c ∈ startI seed k vs, c.length = d ∧ vok c := fun c hc => by
      unfold startI at hc
      obtain ⟨i, hi, rfl⟩ := List.mem_map.1 hc
      obtain ⟨i0, i1⟩ := permF_mem (List.mem_of_mem_take hi)
      have : vs.getD i.toNat [] ∈ vs := by
        rw [List.getD_eq_getElem?_getD, List.getElem?_eq_getElem (by omega)]
        exact List.getElem_mem _
      exact hv _ this
    obtain ⟨h1, h2⟩ := iterI_ok (fun v hv' => (hv v hv').2) hd.2 b.toNat _ hst
    have hl := startI_len (seed := seed) hk1.2.2
    exact ⟨h1, by show 0 < (iterI _ _ _ _).length; omega, by show (iterI _ _ _ _).length ≤ 64; omega⟩

/-- What building leaves. -/
structure BuildRes (u : H) (l : List Rw) (dm a b seed : Int) (u' : H) (bt : Nat) (fp : Nat → Option Tg) (T : Tr) : Prop where
  is : In u u' fp bt T
  ok : TOk T
  rows : (ixRows T).Perm (l.map Rw.pr)
  dim : T.dim = dm
  cs : ∃ P : List (Int × List Int), P.Perm (l.map Rw.pr) ∧ (P.Pairwise fun x y => x.1 < y.1) ∧ T.cs.map (·.2) = centI seed a b dm.toNat (P.map (·.2))

theorem st_tree {u : H} {n : Nat} {d : Int} {a b s : Sl} {m : Option Nat} {f : H → Prop} (h : u n = some (.cells #[.int .i64 d, .slice a.a a.n a.c, .slice b.a b.n b.c, .map m] 98 (0, 0))) :
    (f (u.ins n (.cells #[.int .i64 d, .slice s.a s.n s.c, .slice b.a b.n b.c, .map m] 98 (0, 0))) → H.St u (Addr.add (Addr.mk n 0 none) 1) [.slice s.a s.n s.c] f) ∧
      (f (u.ins n (.cells #[.int .i64 d, .slice a.a a.n a.c, .slice s.a s.n s.c, .map m] 98 (0, 0))) → H.St u (Addr.add (Addr.mk n 0 none) 2) [.slice s.a s.n s.c] f) :=
  ⟨fun hf => ⟨_, _, h, rfl, by simp [Addr.add_lit], by simp [Value.oneCell'], hf⟩, fun hf => ⟨_, _, h, rfl, by simp [Addr.add_lit], by simp [Value.oneCell'], hf⟩⟩

theorem vcso_insOut {u0 u : H} {s : Sl} {cs : List (Sl × List Int)} (h : VcsO u0 u s cs) {n : Nat} (hn : u0 n = none) (hs : s.blk ≠ some n) (hc : ∀ c ∈ cs, c.1.blk ≠ some n) (o : Obj) : VcsO u0 (u.ins n o) s cs :=
  ⟨h.own.insOut hn hs o, fun c hcm => (h.inner c hcm).insOut hn (hc c hcm) o, h.far, h.apart⟩

end Go.Proofs.YtljbcihbgeiacaaGreat.Iv

/- VcIv9 -/
namespace Go.Proofs.YtljbcihbgeiacaaGreat.Iv

theorem spec.Build {s : Sl} {l : List Rw} {dim a b seed : Int} {u : H} {K : Option Addr → Int → H → Prop} (hs : Rws u s l) (hbad : ixErr l dim a b ≠ 0 → K none (ixErr l dim a b) u)
    (hok : ixErr l dim a b = 0 → ∀ u' bt fp T, BuildRes u l dim a b seed u' bt fp T → K (some ⟨bt, 0, none⟩) 0 u') : C.ivf_Build s dim a b seed u K := by
  have bad : ∀ z, ixErr l dim a b = z → z ≠ 0 → K none z u := fun z e hz => by subst e; exact hbad hz
  apply vc.ivf_Build
  refine spec.flat_Check hs ⟨fun hne => bad _ (by unfold ixErr; rw [if_pos hne]) hne, fun he => ?_⟩
  have one : (a < 1 ∨ 64 < a ∨ b < 0 ∨ 20 < b) → K none 1 u := fun hc => bad 1 (by unfold ixErr; rw [if_neg (by simpa using he), if_pos hc]) (by decide)
  intro K2 h2
  refine ⟨fun h => one (.inl h), fun a1 => ⟨fun h => one (.inr (.inl h)), fun a2 => ⟨fun h => one (.inr (.inr (.inl h))), fun b1 => ⟨fun h => one (.inr (.inr (.inr h))), fun b2 => h2 _ _ _ ?_⟩⟩⟩⟩
  have hok := hok (by unfold ixErr; rw [if_neg (by simpa using he), if_neg (by omega)])
  clear bad one hbad h2 K2
  have hrok := rcheck_ok.1 he
  obtain ⟨dm1, dm2⟩ := hrok.dim
  have hl512 := hrok.len
  -- the tree's block, its map, the rows
  refine sem_mkmap fun m om hm hmap => ?_
  have hmu : (u.ins m om) m = some om := H.ins_same _ _ _
  have lm := H.le_ins (u := u) (b := m) om hm
  obtain ⟨u7, hu7⟩ : ∃ u7, u7 = u.ins m om := ⟨_, rfl⟩
  rw [← hu7] at hmap hmu lm ⊢
  intro n8 hn8
  have hnm : n8 ≠ m := fun e => by rw [e, hmu] at hn8; cases hn8
  have hnu : u n8 = none := lm.none hn8
  obtain ⟨o8, ho8⟩ : ∃ o8, o8 = (Obj.cells #[.int .i64 dim, .slice none 0 0, .slice none 0 0, .map (some m)] 98 (0, 0)) := ⟨_, rfl⟩
  have l8 := H.le_ins (u := u7) (b := n8) o8 hn8
  show C.flat_Own s (u7.ins n8 (Obj.cells #[.int .i64 dim, .slice none 0 0, .slice none 0 0, .map (some m)] 98 (0, 0))) _
  rw [← ho8]
  obtain ⟨u8, hu8⟩ : ∃ u8, u8 = u7.ins n8 o8 := ⟨_, rfl⟩
  have h88 : u8 n8 = some o8 := by rw [hu8]; exact H.ins_same _ _ _
  rw [← hu8] at l8 ⊢
  refine spec.flat_Own (hs.mono (lm.trans l8)) hrok.id (by omega) (fun r hr => by have := (hrok.v r hr).1; omega) fun s9 ls u10 hR hp hsrt => ?_
  have hRl : ls.length = l.length := by simpa using hp.length_eq
  have hmem : ∀ r ∈ ls, (1 ≤ r.id ∧ r.id ≤ 1000000000) ∧ (r.v.length : Int) = dim ∧ vok r.v := fun r hr => rok_all' hrok (hp.mem_iff.1 (List.mem_map_of_mem hr))
  have hnd : (ls.map (·.id)).Nodup := by rw [ids_pr', (hp.map (·.1)).nodup_iff, ← ids_pr']; exact hrok.nodup
  have l10 := hR.own.le
  have h9n := hR.rws.len
  -- what stays from here on
  obtain ⟨ub, hub⟩ : ∃ ub : H, ub = fun c => if c = n8 then none else u10 c := ⟨_, rfl⟩
  have ubN : ub n8 = none := by rw [hub]; exact if_pos rfl
  have ubO : ∀ {c}, c ≠ n8 → ub c = u10 c := fun {c} hc => by rw [hub]; exact if_neg hc
  have ubL : ub.le u10 := fun c o hc => by
    by_cases e : c = n8
    · rw [e, ubN] at hc; cases hc
    · rw [ubO e] at hc; exact hc
  have uub : u.le ub := fun c o hc => by
    have : c ≠ n8 := fun e => by rw [e, hnu] at hc; cases hc
    rw [ubO this]
    exact l10 _ _ (l8 _ _ (lm _ _ hc))
  have h8n10 : u10 n8 = some o8 := l10 _ _ h88
  have hfr8 : ∀ {x : Sl}, (∀ g, x.blk = some g → u8 g = none) → x.blk ≠ some n8 := fun hx e => by have := hx n8 e; rw [h88] at this; cases this
  have seg9 : Seg ub s9 2 (ls.flatMap encR) := Seg.else hR.own.own.seg fun g o hg ho => by
    rw [ubO (fun e => hfr8 hR.own.fresh (by rw [hg, e]))]; exact ho
  have rowI : ∀ r ∈ ls, Ints ub r.s r.v := fun r hr => Seg.else (hR.inner r hr).ints fun g o hg ho => by
    rw [ubO (fun e => hfr8 (hR.inner r hr).fresh (by rw [hg, e]))]; exact ho
  have mapB : MapAt ub m [] := hmap.else fun o ho => by rw [ubO (Ne.symm hnm)]; exact l10 _ _ (l8 _ _ ho)
  have rws9 : Rws ub s9 ls := ⟨seg9, rowI⟩
  -- the vectors
  refine ⟨fun s13 x w => 0 ≤ x ∧ x ≤ s9.n ∧ ub.le w ∧ w n8 = some o8 ∧ OwnF u10 w 41 1 s13 (((ls.take x.toNat).map fun r => (r.s, r.v)).flatMap fun c => encS c.1), fun _ x _ => ((s9.n : Int) - x).toNat,
    ⟨by omega, by omega, ubL, h8n10, by simpa using OwnF.nil (H.le.refl u10) 41 1⟩, ?_⟩
  rintro s13 x w ⟨x0, x1, hbw, h8w, ho13⟩
  have hn13 : s13.n = (ls.take x.toNat).length := by have h := flat_n encS_len (by decide) ho13.own.seg; rw [List.length_map] at h; exact h
  rw [List.length_take] at hn13
  refine ⟨fun hx => ?_, fun hx => ?_⟩
  · obtain ⟨p, hpp, r, hr, c0, c1, _⟩ := (rws9.mono hbw).at x0 hx
    refine ⟨p, hpp, ⟨x0, hx⟩, _, c0, _, c1, sem_push' tVecs (build_vec1 r.s) (by decide) rfl (by simp [Value.oneCell']) ho13 (by show s13.n < _; omega) (by show (s13.n + 1) * _ ≤ _; omega) fun s21 u22 ho hn21 hel hbl _ => ⟨⟨by omega, by omega⟩, ⟨by omega, by omega, fun c o hc => hel c o (hbw c o hc) fun e => ?_, hel _ _ h8w fun e => ?_, ?_⟩, by dsimp only; omega⟩⟩
    · have := ho13.fresh c e; rw [ubL c o hc] at this; cases this
    · have := ho13.fresh n8 e; rw [h8n10] at this; cases this
    · have e : ls.take (x + 1).toNat = ls.take x.toNat ++ [r] := by rw [show (x + 1).toNat = x.toNat + 1 by omega, List.take_add_one, hr]; rfl
      rw [e, List.map_append, List.flatMap_append]
      exact ho
  rw [List.take_of_length_le (by omega)] at ho13
  have hn13' : s13.n = ls.length := by omega
  clear x0 x1 hx hn13
  have vcs13 : ∀ {z : H}, w.le z → VcsAt z s13 (ls.map fun r => (r.s, r.v)) := fun hz => ⟨ho13.own.seg.mono hz, fun c hc => by
    obtain ⟨r, hr, rfl⟩ := List.mem_map.1 hc
    exact (rowI r hr).mono (hbw.trans hz)⟩
  -- the centre of no rows
  refine sem_make_ints (by omega) (by omega) fun s23 u24 ho23 hn23 => sem_build (build_vec1 s23) fun g25 hg25 => ?_
  have l25 := H.le_ins (u := u24) (b := g25) (.cells [Value.slice s23.a s23.n s23.c].toArray 41 (0, 0)) hg25
  have ho25 : OwnF u24 (u24.ins g25 (.cells [Value.slice s23.a s23.n s23.c].toArray 41 (0, 0))) 41 1 ⟨some ⟨g25, 0, none⟩, 1, 1⟩ [Value.slice s23.a s23.n s23.c] := by
    have := OwnF.make (k := 1) (H.le.refl u24) hg25 (cells := [Value.slice s23.a s23.n s23.c].toArray) (e := 41) (n := 1) (by omega) (by simp)
    simpa using this
  obtain ⟨u26, hu26⟩ : ∃ u26, u26 = u24.ins g25 (.cells [Value.slice s23.a s23.n s23.c].toArray 41 (0, 0)) := ⟨_, rfl⟩
  rw [← hu26] at l25 ho25 ⊢
  obtain ⟨s25, hs25⟩ : ∃ s25 : Sl, s25 = ⟨some ⟨g25, 0, none⟩, 1, 1⟩ := ⟨_, rfl⟩
  rw [← hs25] at ho25 ⊢
  have w26 : w.le u26 := ho23.le.trans l25
  have zero : VcsO w u26 s25 [(s23, List.replicate dim.toNat 0)] := ⟨by simpa [encS] using ho25.weaken ho23.le, fun c hc => by rw [List.mem_singleton.1 hc]; exact ho23.mono l25, fun c hc => by rw [List.mem_singleton.1 hc]; exact (OwnF.far ho23 (H.le.refl _) ho25).symm, List.pairwise_singleton _ _⟩
  have nw : ∀ {x : Sl}, (∀ g, x.blk = some g → w g = none) → x.blk ≠ some n8 := fun hx e => by have := hx n8 e; rw [h8w] at this; cases this
  have h8u26 := w26 _ _ h8w
  rw [ho8] at h8u26
  refine (st_tree (a := ⟨none, 0, 0⟩) (b := ⟨none, 0, 0⟩) (s := s25) h8u26).1 ?_
  obtain ⟨oc, hoc⟩ : ∃ oc : Sl → Obj, oc = fun z => (Obj.cells #[.int .i64 dim, .slice z.a z.n z.c, .slice none 0 0, .map (some m)] 98 (0, 0)) := ⟨_, rfl⟩
  obtain ⟨u27, hu27⟩ : ∃ u27, u27 = u26.ins n8 (oc s25) := ⟨_, rfl⟩
  have hu27' : u27 = u26.ins n8 (Obj.cells #[.int .i64 dim, .slice s25.a s25.n s25.c, .slice none 0 0, .map (some m)] 98 (0, 0)) := by rw [hu27, hoc]
  rw [← hu27']
  have ub27 : ub.le u27 := fun c o hc => by
    rw [hu27, H.ins_other _ _ (fun e => by rw [e, ubN] at hc; cases hc)]
    exact w26 _ _ (hbw _ _ hc)
  have h8u27 : u27 n8 = some (oc s25) := by rw [hu27]; exact H.ins_same _ _ _
  -- the list of rows, sorted
  obtain ⟨P, hP⟩ : ∃ P : List (Int × List Int), P = ls.map Rw.pr := ⟨_, rfl⟩
  have hPs : P.Pairwise fun x y => x.1 < y.1 := by
    rw [hP, List.pairwise_map]
    rw [List.nodup_iff_pairwise_ne, List.pairwise_map] at hnd
    refine (hsrt.and hnd).imp fun {x y} hxy => ?_
    have h1 := hxy.1
    have h2 := hxy.2
    show x.id < y.id
    omega
  have hPv : P.map (·.2) = ls.map (·.v) := by rw [hP, List.map_map]; rfl
  obtain ⟨cv, hcv⟩ : ∃ cv, cv = centI seed a b dim.toNat (P.map (·.2)) := ⟨_, rfl⟩
  have hcok := centI_ok (seed := seed) (a := a) (b := b) (d := dim.toNat) (vs := P.map (·.2)) (fun v hv => by
    rw [hPv] at hv
    obtain ⟨r, hr, rfl⟩ := List.mem_map.1 hv
    obtain ⟨_, h1, h2⟩ := hmem r hr
    exact ⟨by omega, h2⟩) (by omega) (by omega)
  rw [← hcv] at hcok
  intro K28 h28
  -- behind the centres
  have main : ∀ {s32 : Sl} {cs : List (Sl × List Int)} {u31 : H} {p3 : Option Addr} {x4 : Int}, ub.le u31 → u31 n8 = some (oc s32) → VcsO ub u31 s32 cs → s32.blk ≠ some n8 → (∀ c ∈ cs, c.1.blk ≠ some n8) → cs.map (·.2) = cv → K28 p3 x4 u31 := by
    intro s32 cs u31 p3 x4 hb31 h831 hcs hc8 hcc8 hcsv
    have hcl : cs.length = cv.length := by rw [← hcsv, List.length_map]
    have hcn : s32.n = cs.length := hcs.len
    rw [hoc] at h831
    refine h28 _ _ _ ⟨s32, H.cell?_of h831 1, sem_make tLists (by omega) (Int.le_refl _) (by omega) (by omega) fun g33 hg33 => ?_⟩
    have hmade : (madeCells [Value.slice none 0 0].toArray (cs.length * 1)).toList = (List.replicate cs.length ((⟨none, 0, 0⟩ : Sl), ([] : List Rw))).flatMap fun c => encS c.1 := made_flat (enc := fun c : Sl × List Rw => encS c.1) encSL_len (by decide) (⟨none, 0, 0⟩, []) cs.length
    have hsz : (madeCells [Value.slice none 0 0].toArray (cs.length * 1)).size = cs.length * 1 := by
      have := congrArg List.length hmade
      rw [Array.length_toList, flat_len encSL_len] at this
      simpa using this
    have ho33 := OwnF.make (k := 1) (H.le.refl u31) hg33 (cells := madeCells [Value.slice none 0 0].toArray (cs.length * 1)) (e := 22) (n := cs.length) (by omega) hsz
    rw [hmade] at ho33
    rw [show ((s32.n : Nat) : Int).toNat = cs.length by omega]
    obtain ⟨s33, hs33⟩ : ∃ s33 : Sl, s33 = ⟨some ⟨g33, 0, none⟩, cs.length, cs.length⟩ := ⟨_, rfl⟩
    rw [← hs33] at ho33 ⊢
    obtain ⟨u34, hu34⟩ : ∃ u34, u34 = u31.ins g33 (.cells (madeCells [Value.slice none 0 0].toArray (cs.length * 1)) 22 (0, 0)) := ⟨_, rfl⟩
    rw [← hu34] at ho33 ⊢
    have l34 := ho33.le
    refine (st_tree (a := s32) (b := ⟨none, 0, 0⟩) (s := s33) (l34 _ _ h831)).2 ?_
    obtain ⟨T0, hT0⟩ : ∃ T0 : Tr, T0 = ⟨dim, s32, cs, s33, List.replicate cs.length (⟨none, 0, 0⟩, []), m, []⟩ := ⟨_, rfl⟩
    obtain ⟨u35, hu35⟩ : ∃ u35, u35 = u34.ins n8 (.cells (treeC T0).toArray 98 (0, 0)) := ⟨_, rfl⟩
    have hu35' : u35 = u34.ins n8 (Obj.cells #[.int .i64 dim, .slice s32.a s32.n s32.c, .slice s33.a s33.n s33.c, .map (some m)] 98 (0, 0)) := by rw [hu35, hT0]; rfl
    rw [← hu35']
    have n833 : s33.blk ≠ some n8 := fun e => by have := ho33.fresh n8 e; rw [h831] at this; cases this
    have ub35 : ub.le u35 := fun c o hc => by
      rw [hu35, H.ins_other _ _ (fun e => by rw [e, ubN] at hc; cases hc)]
      exact l34 _ _ (hb31 _ _ hc)
    have hcs35 : VcsO ub u35 s32 cs := by rw [hu35]; exact vcso_insOut (hcs.mono l34) ubN hc8 hcc8 _
    have ho35 : OwnF ub u35 22 1 s33 ((List.replicate cs.length ((⟨none, 0, 0⟩ : Sl), ([] : List Rw))).flatMap fun c => encS c.1) := by rw [hu35]; exact (ho33.weaken hb31).insOut ubN n833 _
    have known31 : ∀ {e k : Nat} {x : Sl} {xs : List Value}, OwnF ub u31 e k x xs → Far x s33 := fun hx => OwnF.far hx (H.le.refl u31) ho33
    -- its blocks
    let fp0 : Nat → Option Tg := fun c => open Classical in if c = n8 then some .tree else if c = m then some .map else if s32.blk = some c then some .carr else if s33.blk = some c then some .larr else if ∃ z ∈ cs, z.1.blk = some c then some .cvec else if ∃ r ∈ ls, r.s.blk = some c then some .vec else none
    have mub : ub m ≠ none := by obtain ⟨es, cl, hx, _⟩ := mapB; rw [hx]; simp
    have fr_m : ∀ {x : Sl}, (∀ g, x.blk = some g → ub g = none) → x.blk ≠ some m := fun hx e => mub (hx m e)
    have rk : ∀ r ∈ ls, ∀ c, r.s.blk = some c → ub c ≠ none ∧ c ≠ n8 ∧ u8 c = none := fun r hr c hc => by
      have h1 := (hR.inner r hr).fresh c hc
      have h2 : c ≠ n8 := fun e => by rw [e, h88] at h1; cases h1
      exact ⟨by rw [ubO h2]; exact own_known (hR.inner r hr) hc, h2, h1⟩
    have t8 : fp0 n8 = some .tree := if_pos rfl
    have tm : fp0 m = some .map := by
      show (if m = n8 then _ else _) = _
      rw [if_neg (Ne.symm hnm), if_pos rfl]
    have tc : ∀ g, s32.blk = some g → fp0 g = some .carr := fun g hg => by
      show (if g = n8 then _ else _) = _
      rw [if_neg (fun e => hc8 (by rw [hg, e])), if_neg (fun e => fr_m hcs.own.fresh (by rw [hg, e])), if_pos hg]
    have tl : ∀ g, s33.blk = some g → fp0 g = some .larr := fun g hg => by
      show (if g = n8 then _ else _) = _
      rw [if_neg (fun e => n833 (by rw [hg, e])), if_neg (fun e => fr_m ho35.fresh (by rw [hg, e])), if_neg (fun e => known31 hcs.own g e hg), if_pos hg]
    have tv : ∀ z ∈ cs, ∀ g, z.1.blk = some g → fp0 g = some .cvec := fun z hz g hg => by
      show (if g = n8 then _ else _) = _
      rw [if_neg (fun e => hcc8 z hz (by rw [hg, e])), if_neg (fun e => fr_m (hcs.inner z hz).fresh (by rw [hg, e])), if_neg (fun e => hcs.far z hz g e hg), if_neg (fun e => known31 (hcs.inner z hz) g hg e), if_pos ⟨z, hz, hg⟩]
    have tr : ∀ r ∈ ls, ∀ g, r.s.blk = some g → fp0 g = some .vec := fun r hr g hg => by
      obtain ⟨k1, k2, k3⟩ := rk r hr g hg
      show (if g = n8 then _ else _) = _
      rw [if_neg k2, if_neg (fun e => by rw [e, hu8, H.ins_other _ _ (Ne.symm hnm), hmu] at k3; cases k3), if_neg (fun e => k1 (hcs.own.fresh g e)), if_neg (fun e => k1 (ho35.fresh g e)), if_neg (fun ⟨z, hz, e⟩ => k1 ((hcs.inner z hz).fresh g e)), if_pos ⟨r, hr, hg⟩]
    have t9 : ∀ g, s9.blk = some g → fp0 g = none := fun g hg => by
      have k3 := hR.own.fresh g hg
      have k2 : g ≠ n8 := fun e => by rw [e, h88] at k3; cases k3
      have k1 : ub g ≠ none := by rw [ubO k2]; exact own_known hR.own hg
      show (if g = n8 then _ else _) = _
      rw [if_neg k2, if_neg (fun e => by rw [e, hu8, H.ins_other _ _ (Ne.symm hnm), hmu] at k3; cases k3), if_neg (fun e => k1 (hcs.own.fresh g e)), if_neg (fun e => k1 (ho35.fresh g e)), if_neg (fun ⟨z, hz, e⟩ => k1 ((hcs.inner z hz).fresh g e)), if_neg (fun ⟨r, hr, e⟩ => hR.far r hr g hg e)]
    have k9 : ∀ g, s9.blk = some g → u35 g ≠ none := fun g hg => by
      have k3 := hR.own.fresh g hg
      have k2 : g ≠ n8 := fun e => by rw [e, h88] at k3; cases k3
      have k1 : ub g ≠ none := by rw [ubO k2]; exact own_known hR.own hg
      obtain ⟨o, ho⟩ := Option.ne_none_iff_exists'.1 k1
      rw [ub35 _ _ ho]; simp
    have split : ∀ c, fp0 c ≠ none → c = n8 ∨ c = m ∨ s32.blk = some c ∨ s33.blk = some c ∨ (∃ z ∈ cs, z.1.blk = some c) ∨ ∃ r ∈ ls, r.s.blk = some c := fun c hc => Classical.byContradiction fun hn => hc (by
      simp only [not_or] at hn
      show (if c = n8 then _ else _) = _
      rw [if_neg hn.1, if_neg hn.2.1, if_neg hn.2.2.1, if_neg hn.2.2.2.1, if_neg hn.2.2.2.2.1, if_neg hn.2.2.2.2.2])
    have in0 : In u u35 fp0 n8 T0 := by
      refine ⟨?_, uub.trans ub35, fun c hc => ?_, fun c hc => ?_⟩
      · subst hT0
        refine ⟨by rw [hu35]; exact H.ins_same _ _ _, t8, hcs35.own.own.seg, tc, fun i c hic => ⟨(hcs35.inner c (List.mem_of_getElem? hic)).ints, tv c (List.mem_of_getElem? hic)⟩, ho35.own, tl, fun i y hy => ?_, mapB.mono ub35, tm⟩
        have : y = (⟨none, 0, 0⟩, []) := (List.mem_replicate.1 (List.mem_of_getElem? hy)).2
        subst this
        exact ⟨⟨⟨rfl, Nat.le_refl _, by decide, .inl rfl⟩, .inr rfl⟩, fun g hg => by simp [Sl.blk] at hg, fun r hr => by cases hr⟩
      · rcases split c hc with rfl | rfl | h1 | h1 | ⟨z, hz, h1⟩ | ⟨r, hr, h1⟩
        · exact hnu
        · exact hm
        · exact uub.none (hcs.own.fresh c h1)
        · exact uub.none (ho35.fresh c h1)
        · exact uub.none ((hcs.inner z hz).fresh c h1)
        · exact (lm.trans l8).none (rk r hr c h1).2.2
      · rcases split c hc with rfl | rfl | h1 | h1 | ⟨z, hz, h1⟩ | ⟨r, hr, h1⟩
        · rw [hu35, H.ins_same]; simp
        · obtain ⟨o, ho⟩ := Option.ne_none_iff_exists'.1 mub
          rw [ub35 _ _ ho]; simp
        · exact own_known hcs35.own h1
        · exact own_known ho35 h1
        · exact own_known (hcs35.inner z hz) h1
        · obtain ⟨o, ho⟩ := Option.ne_none_iff_exists'.1 (rk r hr c h1).1
          rw [ub35 _ _ ho]; simp
    have ok0 : TOk T0 := by
      subst hT0
      have hfl : (List.replicate cs.length ((⟨none, 0, 0⟩ : Sl), ([] : List Rw))).flatMap (·.2) = [] := by
        rw [List.flatMap_eq_nil_iff]
        intro x hx
        rw [(List.mem_replicate.1 hx).2]
      refine ⟨hrok.dim, ⟨by simp, by show 0 < cs.length; omega, by show cs.length ≤ 64; omega⟩, fun c hc => ?_, fun y hy r hr => ?_, fun y hy r hr => ?_, by show (List.map _ (List.flatMap _ (List.replicate _ _))).Nodup; rw [hfl]; exact List.nodup_nil, fun x i => ⟨fun h => (by cases h), fun ⟨y, hy, hx⟩ => ?_⟩, by show 0 = (List.flatMap _ (List.replicate _ _)).length; rw [hfl]; rfl, by show 0 ≤ 512; omega, fun i y hy r hr => ?_⟩
      · have : c.2 ∈ cv := by rw [← hcsv]; exact List.mem_map_of_mem hc
        obtain ⟨h1, h2⟩ := hcok.1 _ this
        exact ⟨by show (c.2.length : Int) = dim; omega, h2⟩
      · rw [(List.mem_replicate.1 hy).2] at hr; cases hr
      · rw [(List.mem_replicate.1 hy).2] at hr; cases hr
      · rw [(List.mem_replicate.1 (List.mem_of_getElem? hy)).2] at hx; cases hx
      · rw [(List.mem_replicate.1 (List.mem_of_getElem? hy)).2] at hr; cases hr
    have rows0 : ixRows T0 = [] := by
      subst hT0
      unfold ixRows
      have hfl : (List.replicate cs.length ((⟨none, 0, 0⟩ : Sl), ([] : List Rw))).flatMap (·.2) = [] := by
        rw [List.flatMap_eq_nil_iff]
        intro x hx
        rw [(List.mem_replicate.1 hx).2]
      show (List.flatMap _ (List.replicate _ _)).map _ = []
      rw [hfl]; rfl
    -- row by row
    refine ⟨fun x w => 0 ≤ x ∧ x ≤ s9.n ∧ ∃ fp T, In u w fp n8 T ∧ TOk T ∧ T.dim = dim ∧ T.cs = cs ∧ (ixRows T).Perm ((ls.take x.toNat).map Rw.pr) ∧ (∀ y, y ∈ T.w.map (·.1) ↔ y ∈ (ls.take x.toNat).map (·.id)) ∧ T.w.length = x.toNat ∧ (∀ r ∈ ls, Ints w r.s r.v ∧ ∀ g, r.s.blk = some g → fp g = some .vec) ∧ Rws w s9 ls ∧ ∀ g, s9.blk = some g → fp g = none ∧ w g ≠ none,
      fun x _ => ((s9.n : Int) - x).toNat, ⟨by omega, by omega, fp0, T0, in0, ok0, by rw [hT0], by rw [hT0], by rw [rows0]; exact .refl _, fun y => by rw [hT0]; simp, by rw [hT0]; rfl, fun r hr => ⟨(rowI r hr).mono ub35, tr r hr⟩, rws9.mono ub35, fun g hg => ⟨t9 g hg, k9 g hg⟩⟩, ?_⟩
    rintro x w ⟨x0, x1, fp, T, hI, hTk, hTd, hTc, hrows, hkeys, hwl, hvecs, hrw, h9f⟩
    refine ⟨fun hx => ?_, fun hx => ?_⟩
    · obtain ⟨p, hpp, r, hr, e0, e1, _⟩ := hrw.at x0 hx
      have hrm := List.mem_of_getElem? hr
      obtain ⟨r1, r2, r3⟩ := hmem r hrm
      obtain ⟨v1, v2⟩ := hvecs r hrm
      have htake : ls.take (x + 1).toNat = ls.take x.toNat ++ [r] := by rw [show (x + 1).toNat = x.toNat + 1 by omega, List.take_add_one, hr]; rfl
      have hnin : r.id ∉ T.w.map (·.1) := fun hin => by
        have h1 := (hkeys r.id).1 hin
        have h2 : ((ls.take (x.toNat + 1)).map (·.id)).Nodup := hnd.sublist ((List.take_sublist _ _).map _)
        rw [show x.toNat + 1 = (x + 1).toNat by omega, htake, List.map_append, List.nodup_append] at h2
        exact h2.2.2 _ h1 _ (by simp) rfl
      refine ⟨p, hpp, ⟨x0, hx⟩, _, e0, _, e1, spec.lay hI hTk hnin r1 v1 v2 ⟨by rw [hTd]; exact r2, r3⟩ (by omega) fun u43 fp' T' hres => ⟨⟨by omega, by omega⟩, ⟨by omega, by omega, fp', T', hres.is, hres.ok, hres.dim.trans hTd, hres.cs.trans hTc, ?_, fun y => ?_, by rw [hres.wlen]; omega, fun r' hr' => ?_, ?_, fun g hg => ?_⟩, by dsimp only; omega⟩⟩
      · rw [htake, List.map_append]
        exact hres.rows.trans ((List.Perm.cons _ hrows).trans (List.perm_append_singleton _ _).symm)
      · rw [hres.w, hkeys, htake, List.map_append]
        simp
      · obtain ⟨w1, w2⟩ := hvecs r' hr'
        exact ⟨Seg.else w1 fun g o hg ho => hres.vecs g o ho (w2 g hg), fun g hg => hres.tags g (w2 g hg)⟩
      · refine ⟨Seg.else hrw.1 fun g o hg ho => hres.turn.keep g o ho (h9f g hg).1, fun r' hr' => ?_⟩
        obtain ⟨w1, w2⟩ := hvecs r' hr'
        exact Seg.else w1 fun g o hg ho => hres.vecs g o ho (w2 g hg)
      · obtain ⟨f1, f2⟩ := h9f g hg
        obtain ⟨o, ho⟩ := Option.ne_none_iff_exists'.1 f2
        exact ⟨hres.turn.off ho f1, by rw [hres.turn.keep g o ho f1]; simp⟩
    · rw [List.take_of_length_le (by omega)] at hrows
      refine hok w n8 fp T ⟨hI, hTk, hrows.trans hp, hTd, P, by rw [hP]; exact hp, hPs, by rw [hTc, hcsv, hcv]⟩
  refine ⟨fun hpos => ?_, fun hnp => ?_⟩
  · have hpl : 0 < ls.length := by omega
    have v27 : VcsAt u27 s13 (ls.map fun r => (r.s, r.v)) := ⟨Seg.else ho13.own.seg fun g o hg ho => by
      have : g ≠ n8 := fun e => by have := ho13.fresh g hg; rw [e, h8n10] at this; cases this
      rw [hu27, H.ins_other _ _ this]
      exact w26 _ _ ho, fun c hc => by
      obtain ⟨r, hr, rfl⟩ := List.mem_map.1 hc
      exact (rowI r hr).mono ub27⟩
    have hmm : (ls.map fun r => (r.s, r.v)).map (·.2) = P.map (·.2) := by rw [hPv, List.map_map]; rfl
    have hPl : (P.map (·.2)).length = ls.length := by rw [hPv, List.length_map]
    refine spec.kmeans_Train (d := dim.toNat) v27 (fun c hc => ?_) (by omega) (by simp; omega) (by split <;> omega) (by simp only [List.length_map]; split <;> omega) (by omega) fun s44 u46 cs hcs hcsv => ⟨fun hx => absurd rfl hx, fun _ => ?_⟩
    · obtain ⟨r, hr, rfl⟩ := List.mem_map.1 hc
      obtain ⟨_, h1, h2⟩ := hmem r hr
      exact ⟨by show r.v.length = _; omega, h2⟩
    have h846 := hcs.own.le _ _ h8u27
    have nc : ∀ {x : Sl}, (∀ g, x.blk = some g → u27 g = none) → x.blk ≠ some n8 := fun hx e => by have := hx n8 e; rw [h8u27] at this; cases this
    have h846' := h846
    rw [hoc] at h846'
    refine (st_tree (a := s25) (b := ⟨none, 0, 0⟩) (s := s44) h846').1 ?_
    obtain ⟨u47, hu47⟩ : ∃ u47, u47 = u46.ins n8 (oc s44) := ⟨_, rfl⟩
    have hu47' : u47 = u46.ins n8 (Obj.cells #[.int .i64 dim, .slice s44.a s44.n s44.c, .slice none 0 0, .map (some m)] 98 (0, 0)) := by rw [hu47, hoc]
    rw [← hu47']
    refine main (fun c o hc => ?_) (by rw [hu47]; exact H.ins_same _ _ _) (by rw [hu47]; exact vcso_insOut (hcs.weaken ub27) ubN (nc hcs.own.fresh) (fun c hc => nc (hcs.inner c hc).fresh) _) (nc hcs.own.fresh) (fun c hc => nc (hcs.inner c hc).fresh) ?_
    · rw [hu47, H.ins_other _ _ (fun e => by rw [e, ubN] at hc; cases hc)]
      exact hcs.own.le _ _ (ub27 _ _ hc)
    · rw [hcsv, hcv, hmm]
      have hne : P.map (·.2) ≠ [] := fun e => by rw [e] at hPl; simp at hPl; omega
      unfold centI
      rw [if_neg hne, hPl, hn13']
  · have hl0 : ls = [] := List.eq_nil_of_length_eq_zero (by omega)
    refine main ub27 h8u27 (by rw [hu27]; exact vcso_insOut (zero.weaken hbw) ubN (nw zero.own.fresh) (fun c hc => nw (zero.inner c hc).fresh) _) (nw zero.own.fresh) (fun c hc => nw (zero.inner c hc).fresh) ?_
    rw [hcv, hPv, hl0]
    rfl

end Go.Proofs.YtljbcihbgeiacaaGreat.Iv

/- VcLawF -/
namespace Go.Proofs.YtljbcihbgeiacaaGreat

/-- The regions of a search of all rows. -/
def restOf (a b c : Sl) (rest : List Rw) : List Rgn := if rest = [] then [] else [⟨2, a, b, 0, c, boxLo rest, boxHi rest, sortI (rest.map (·.id))⟩]

theorem AnsAt.own {u0 u : H} {sh ss sr : Sl} {hits : List Hit} {seen : List Int} {rest : List Rw} (h : AnsAt u0 u sh ss sr hits seen rest) : ∃ a b c : Sl, AnsO u0 u sh ss sr hits seen (restOf a b c rest) := by
  rcases h.r with ⟨he, rfl⟩ | ⟨hne, _, a, b, c, h1, h2, h3, h4, n1, n2, n3, f1, f2⟩
  · refine ⟨⟨none, 0, 0⟩, ⟨none, 0, 0⟩, ⟨none, 0, 0⟩, ?_⟩
    rw [restOf, if_pos he]
    refine ⟨h.h, h.s, OwnF.nil h.h.le _ _, fun r hr => (by cases hr), ?_⟩
    simp only [ansS, List.flatMap_nil]
    refine List.pairwise_cons.2 ⟨fun t ht => ?_, List.pairwise_cons.2 ⟨fun t ht => ?_, List.pairwise_singleton _ _⟩⟩
    · rcases List.mem_cons.1 ht with rfl | ht
      · exact h.hs
      · obtain rfl : t = _ := by simpa using ht
        intro g _ hg; simp [Sl.blk] at hg
    · obtain rfl : t = _ := by simpa using ht
      intro g _ hg; simp [Sl.blk] at hg
  · refine ⟨a, b, c, ?_⟩
    rw [restOf, if_neg hne]
    have e : ([⟨2, a, b, 0, c, boxLo rest, boxHi rest, sortI (rest.map (·.id))⟩] : List Rgn).flatMap encG = [.int .i64 2, .slice a.a a.n a.c, .slice b.a b.n b.c, .int .u64 0, .int .u64 0, .slice c.a c.n c.c] := by
      simp [encG, hiW0, loW0]
    refine ⟨h.h, h.s, by rw [e]; exact h1, fun r hr => ?_, ?_⟩
    · obtain rfl : r = _ := by simpa using hr
      exact ⟨h2, h3, h4⟩
    · have far1 : ∀ x ∈ [a, b, c], Far sh x ∧ Far ss x ∧ Far sr x := fun x hx => ⟨fun g h1' h2' => (f1 x hx g h2').1 h1', fun g h1' h2' => (f1 x hx g h2').2.1 h1', fun g h1' h2' => (f1 x hx g h2').2.2 h1'⟩
      have ne : ∀ {x y : Sl}, x.blk ≠ y.blk → Far x y := fun hn g hx hy => hn (by rw [hx, hy])
      simp only [ansS, List.flatMap_cons, List.flatMap_nil, List.append_nil, Rgn.sls]
      refine List.pairwise_cons.2 ⟨fun t ht => ?_, List.pairwise_cons.2 ⟨fun t ht => ?_, List.pairwise_cons.2 ⟨fun t ht => (far1 t ht).2.2, List.pairwise_cons.2 ⟨fun t ht => ?_, List.pairwise_cons.2 ⟨fun t ht => ?_, List.pairwise_singleton _ _⟩⟩⟩⟩⟩
      · rcases List.mem_cons.1 ht with rfl | ht
        · exact h.hs
        · rcases List.mem_cons.1 ht with rfl | ht
          · exact fun g hg hg2 => (f2 g hg2).1 hg
          · exact (far1 t ht).1
      · rcases List.mem_cons.1 ht with rfl | ht
        · exact fun g hg hg2 => (f2 g hg2).2 hg
        · exact (far1 t ht).2.1
      · rcases List.mem_cons.1 ht with rfl | ht
        · exact ne n1
        · obtain rfl : t = c := by simpa using ht
          exact ne n2
      · obtain rfl : t = c := by simpa using ht
        exact ne n3

theorem AnsR.nil (u : H) : AnsR u ⟨none, 0, 0⟩ ⟨none, 0, 0⟩ ⟨none, 0, 0⟩ [] [] [] :=
  ⟨(OwnF.nil (H.le.refl u) 0 3).own.seg, Ints.nil u, (OwnF.nil (H.le.refl u) 0 6).own.seg, fun r hr => by cases hr⟩

end Go.Proofs.YtljbcihbgeiacaaGreat

/- VcOwn2 -/
namespace Go.Proofs.YtljbcihbgeiacaaGreat

end Go.Proofs.YtljbcihbgeiacaaGreat

/- VcTable -/
namespace Go.Proofs.YtljbcihbgeiacaaGreat

/-- A table in block n. -/
structure TabAt (u : H) (n : Nat) (dim : Int) (L : List Rw) : Prop where
  ex : ∃ (s : Sl) (v : H), u n = some (.cells #[.int .i64 dim, .slice s.a s.n s.c] 91 (0, 0)) ∧ v.le u ∧ v n = none ∧ Rws v s L
  srt : L.Pairwise fun a b => a.id < b.id

theorem TabAt.keep {u u' : H} {n : Nat} {dim : Int} {L : List Rw} (h : TabAt u n dim L) (hu : u.le u') : TabAt u' n dim L := by
  obtain ⟨s, v, h1, h2, h3, h4⟩ := h.ex
  exact ⟨⟨s, v, hu _ _ h1, h2.trans hu, h3, h4⟩, h.srt⟩

abbrev Pr := Int × List Int

def tputP (P : List Pr) (id : Int) (v : List Int) : List Pr := P.filter (fun p => decide (p.1 < id)) ++ (id, v) :: P.filter (fun p => decide (id < p.1))
def tdelP (P : List Pr) (id : Int) : List Pr := P.filter fun p => p.1 != id

theorem srt_split {L : List Rw} (hs : L.Pairwise fun a b => a.id < b.id) {id : Int} {k : Nat} (hk : k ≤ L.length) (h1 : ∀ (i : Nat) r, i < k → L[i]? = some r → r.id < id) (h2 : ∀ r, L[k]? = some r → id ≤ r.id) :
    L.take k = L.filter (fun r => decide (r.id < id)) ∧ (∀ r, L[k]? = some r → r.id ≠ id → L.drop k = L.filter (fun r => decide (id < r.id)) ∧ ∀ r ∈ L, r.id ≠ id) ∧ (L.length ≤ k → L.filter (fun r => decide (id < r.id)) = [] ∧ ∀ r ∈ L, r.id ≠ id) ∧
    (∀ r, L[k]? = some r → r.id = id → L.drop (k + 1) = L.filter (fun r => decide (id < r.id))) := by
  have hA : ∀ r ∈ L.take k, r.id < id := fun r hr => by
    obtain ⟨i, hi, rfl⟩ := List.mem_iff_getElem.1 hr
    simp only [List.length_take] at hi
    exact h1 i _ (by omega) (by rw [List.getElem_take]; exact List.getElem?_eq_getElem (by omega))
  have hB : ∀ r ∈ L.drop k, id ≤ r.id := fun r hr => by
    obtain ⟨i, hi, rfl⟩ := List.mem_iff_getElem.1 hr
    simp only [List.length_drop] at hi
    have hk' : k < L.length := by omega
    have h0 := h2 _ (List.getElem?_eq_getElem hk')
    rw [List.getElem_drop]
    rcases Nat.eq_zero_or_pos i with rfl | hp
    · exact h0
    · have := List.pairwise_iff_getElem.1 hs k (k + i) hk' (by omega) (by omega)
      omega
  have hL : L = L.take k ++ L.drop k := (List.take_append_drop k L).symm
  have e1 : L.filter (fun r => decide (r.id < id)) = L.take k := by
    conv => lhs; rw [hL]
    rw [List.filter_append, List.filter_eq_self.2 fun r hr => by simpa using hA r hr, List.filter_eq_nil_iff.2 fun r hr => by have := hB r hr; simp; omega, List.append_nil]
  have e2 : L.filter (fun r => decide (id < r.id)) = (L.drop k).filter (fun r => decide (id < r.id)) := by
    conv => lhs; rw [hL]
    rw [List.filter_append, List.filter_eq_nil_iff.2 fun r hr => by have := hA r hr; simp; omega, List.nil_append]
  have hC : ∀ r, L[k]? = some r → ∀ r' ∈ L.drop (k + 1), r.id < r'.id := fun r hr r' hr' => by
    obtain ⟨hk', rfl⟩ := List.getElem?_eq_some_iff.1 hr
    obtain ⟨i, hi, rfl⟩ := List.mem_iff_getElem.1 hr'
    simp only [List.length_drop] at hi
    rw [List.getElem_drop]
    exact List.pairwise_iff_getElem.1 hs k (k + 1 + i) hk' (by omega) (by omega)
  refine ⟨e1.symm, fun r hr hne => ?_, fun hl => ?_, fun r hr he => ?_⟩
  · obtain ⟨hk', hrk⟩ := List.getElem?_eq_some_iff.1 hr
    have hge := h2 r hr
    have hall : ∀ r' ∈ L.drop k, id < r'.id := fun r' hr' => by
      rw [List.drop_eq_getElem_cons hk', hrk] at hr'
      rcases List.mem_cons.1 hr' with rfl | hr'
      · omega
      · have := hC r hr r' hr'; omega
    refine ⟨by rw [e2, List.filter_eq_self.2 fun r hr => by simpa using hall r hr], fun r' hr' => ?_⟩
    rw [hL] at hr'
    rcases List.mem_append.1 hr' with h3 | h3
    · have := hA r' h3; omega
    · have := hall r' h3; omega
  · have : L.drop k = [] := List.drop_eq_nil_of_le hl
    refine ⟨by rw [e2, this]; rfl, fun r' hr' => ?_⟩
    rw [hL, this, List.append_nil] at hr'
    have := hA r' hr'; omega
  · obtain ⟨hk', hrk⟩ := List.getElem?_eq_some_iff.1 hr
    rw [e2, List.drop_eq_getElem_cons hk', hrk, List.filter_cons]
    have : decide (id < r.id) = false := by simp; omega
    rw [this]
    simp only [Bool.false_eq_true, if_false]
    rw [List.filter_eq_self.2 fun r' hr' => by have := hC r hr r' hr'; simp; omega]

theorem pr_filter (L : List Rw) (f : Pr → Bool) : (L.filter fun r => f r.pr).map Rw.pr = (L.map Rw.pr).filter f := by
  rw [List.filter_map]; rfl

theorem pr_lt (L : List Rw) (id : Int) : (L.filter fun r => decide (r.id < id)).map Rw.pr = (L.map Rw.pr).filter fun p => decide (p.1 < id) := pr_filter L fun p => decide (p.1 < id)
theorem pr_gt (L : List Rw) (id : Int) : (L.filter fun r => decide (id < r.id)).map Rw.pr = (L.map Rw.pr).filter fun p => decide (id < p.1) := pr_filter L fun p => decide (id < p.1)

theorem srt_take {L : List Rw} (hs : L.Pairwise fun a b => a.id < b.id) {r : Rw} : (L.filter (fun x => decide (x.id < r.id)) ++ r :: L.filter (fun x => decide (r.id < x.id))).Pairwise fun a b => a.id < b.id := by
  refine List.pairwise_append.2 ⟨hs.sublist List.filter_sublist, List.pairwise_cons.2 ⟨fun x hx => by simpa using (List.mem_filter.1 hx).2, hs.sublist List.filter_sublist⟩, fun a ha b hb => ?_⟩
  have h1 : a.id < r.id := by simpa using (List.mem_filter.1 ha).2
  rcases List.mem_cons.1 hb with rfl | hb
  · exact h1
  · have h2 : r.id < b.id := by simpa using (List.mem_filter.1 hb).2
    omega

/-- A table's slice stored. -/
theorem st_tab {u : H} {n : Nat} {dim : Int} {s s' : Sl} {f : H → Prop} (hn : u n = some (.cells #[.int .i64 dim, .slice s.a s.n s.c] 91 (0, 0))) (hf : f (u.ins n (.cells #[.int .i64 dim, .slice s'.a s'.n s'.c] 91 (0, 0)))) :
    H.St u ((Addr.mk n 0 none).add 1) [.slice s'.a s'.n s'.c] f := by
  rw [add1]
  refine ⟨_, _, hn, rfl, by simp, by simp [Value.oneCell'], ?_⟩
  have : wr #[.int .i64 dim, .slice s.a s.n s.c] 1 [.slice s'.a s'.n s'.c] = #[.int .i64 dim, .slice s'.a s'.n s'.c] := by simp [wr]
  simp only [this]
  exact hf

theorem Rws.nil (u : H) : Rws u ⟨none, 0, 0⟩ [] := ⟨⟨rfl, Nat.le_refl _, by decide, .inl rfl⟩, fun _ h => by cases h⟩

/-- The table's new rows, put together: those ahead, one perhaps, those behind. -/
theorem tab_new {u uE : H} {n : Nat} {dim : Int} {s s' : Sl} {v : H} {L' : List Rw} (hu : u.le uE) (hn : u n = some (.cells #[.int .i64 dim, .slice s.a s.n s.c] 91 (0, 0))) (hv : v.le u) (hvn : v n = none)
    (ho : OwnF u uE 43 2 s' (L'.flatMap encR)) (hin : ∀ r ∈ L', Ints v r.s r.v ∨ (Ints uE r.s r.v ∧ ∀ g, r.s.blk = some g → u g = none)) (hs : L'.Pairwise fun a b => a.id < b.id) :
    TabAt (uE.ins n (.cells #[.int .i64 dim, .slice s'.a s'.n s'.c] 91 (0, 0))) n dim L' ∧ ∀ c o, u c = some o → c ≠ n → (uE.ins n (.cells #[.int .i64 dim, .slice s'.a s'.n s'.c] 91 (0, 0))) c = some o := by
  let w : H := fun c => if c = n then none else uE c
  have w1 : w n = none := if_pos rfl
  have w2 : ∀ c, c ≠ n → w c = uE c := fun c hc => if_neg hc
  have hg : ∀ g, s'.blk = some g → g ≠ n := fun g hg e => by have := ho.fresh g hg; rw [e, hn] at this; cases this
  refine ⟨⟨⟨s', w, H.ins_same _ _ _, fun c o hc => ?_, w1, ?_, fun r hr => ?_⟩, hs⟩, fun c o hc hne => by rw [H.ins_other _ _ hne]; exact hu c o hc⟩
  · by_cases e : c = n
    · rw [e, w1] at hc; cases hc
    · rw [w2 c e] at hc; rw [H.ins_other _ _ e]; exact hc
  · exact Seg.else ho.own.seg fun g o h1 h2 => by rw [w2 g (hg g h1)]; exact h2
  · rcases hin r hr with h1 | ⟨h1, h2⟩
    · refine Ints.mono h1 fun c o hc => ?_
      have : c ≠ n := fun e => by rw [e, hvn] at hc; cases hc
      rw [w2 c this]; exact hu c o (hv c o hc)
    · refine Seg.else h1 fun g o h3 h4 => ?_
      have : g ≠ n := fun e => by have := h2 g h3; rw [e, hn] at this; cases this
      rw [w2 g this]; exact h4

theorem spec.theodoliteref05_Table__Put {u : H} {n : Nat} {dim id : Int} {t : Sl} {q : List Int} {L : List Rw} {K : Bool → Int → H → Prop} (h : TabAt u n dim L) (hl : L.length ≤ 1000000) (ht : Ints u t q)
    (hbad : mayErr id q dim (decide (id ∈ L.map (·.id))) L.length ≠ 0 → K false (mayErr id q dim (decide (id ∈ L.map (·.id))) L.length) u)
    (hok : mayErr id q dim (decide (id ∈ L.map (·.id))) L.length = 0 → ∀ u' L', TabAt u' n dim L' → L'.map Rw.pr = tputP (L.map Rw.pr) id q → (∀ c o, u c = some o → c ≠ n → u' c = some o) → K (decide (id ∉ L.map (·.id))) 0 u') : C.theodoliteref05_Table__Put (some ⟨n, 0, none⟩) id t u K := by
  obtain ⟨s, v, hn, hv, hvn, hR⟩ := h.ex
  have hR' := hR.mono hv
  have hsn := hR'.len
  have hsx := hR'.max
  have c0 : u.cell? ⟨n, 0, none⟩ = some (.int .i64 dim) := H.cell?_of hn 0
  have c1 : u.cell? ((Addr.mk n 0 none).add 1) = some (.slice s.a s.n s.c) := by rw [add1]; exact H.cell?_of hn 1
  have hcap := Seg.cap hR'.1
  have hmR : ∀ (M : List Rw), ∀ y ∈ M.flatMap encR, y.oneCell' = true := fun M y hy => by
    obtain ⟨r, _, hr⟩ := List.mem_flatMap.1 hy
    exact encR_one r y hr
  have bad : ∀ z, mayErr id q dim (decide (id ∈ L.map (·.id))) L.length = z → z ≠ 0 → K false z u := fun z e hz => by
    subst e; exact hbad hz
  apply vc.theodoliteref05_Table__Put
  refine spec.theodoliteref03_Id ⟨fun hno => bad 50 ?_ (by decide), fun hid => ?_⟩
  · have : ¬ (1 ≤ id ∧ id ≤ 1000000000) := by simpa using hno
    unfold mayErr; rw [if_pos (by omega)]
  have hid1 : 1 ≤ id ∧ id ≤ 1000000000 := by simpa using hid
  have hnid : ¬ (id < 1 ∨ 1000000000 < id) := by omega
  refine ⟨_, rfl, dim, c0, spec.theodoliteref03_Check ht ⟨fun hne => bad _ ?_ hne, fun he => ?_⟩⟩
  · unfold mayErr; rw [if_neg hnid, if_pos hne]
  intro K6 hK6
  -- where it belongs
  have found : ∀ k : Nat, k ≤ L.length → (∀ (i : Nat) r, i < k → L[i]? = some r → r.id < id) → (∀ r, L[k]? = some r → id ≤ r.id) → K6 k u := by
    intro k hk h1 h2
    obtain ⟨e1, e2, e3, e4⟩ := srt_split h.srt hk h1 h2
    refine hK6 _ _ fun K9 hK9 => ?_
    -- behind the question whether it is fresh
    have fresh : ∀ bb : Bool, (bb = true ↔ id ∉ L.map (·.id)) → (bb = false → ∃ r, L[k]? = some r ∧ r.id = id) → (bb = true → L.drop k = L.filter (fun r => decide (id < r.id))) → K9 bb u := by
      intro bb hbb hbf hbt
      refine hK9 _ _ fun K12 hK12 => ?_
      have put : (bb = true → L.length < 512) → ∀ b13 x14, K12 b13 x14 u := by
        intro hsm b13 x14
        refine hK12 _ _ _ ⟨_, rfl, s, c1, ?_⟩
        refine sem_slice (P := Tryz.prog) tRows (l := k) (h := s.n) (m := s.c) (.inr rfl) (.inl ⟨rfl, rfl⟩) (.inl ⟨rfl, rfl⟩) (by omega) hcap (Nat.le_refl _) hcap ?_
        intro K20 hK20
        -- the rest, whichever it is
        have rest : ∀ (s21 : Sl), Rws u s21 (L.filter fun r => decide (id < r.id)) → s21.n ≤ L.length → K20 s21 u := by
          intro s21 h21 h21n
          have hqn := ht.len
          have hqm : q.length ≤ 64 := by
            have := vcheck_ok he
            omega
          have hnI : OwnF u u 3 1 ⟨none, 0, 0⟩ [] := OwnF.nil (H.le.refl u) 3 1
          have hseg : Seg u t 1 (q.flatMap encI) := by have := ht; unfold Ints at this; rw [← flatI] at this; exact this
          refine hK20 _ _ (sem_appendF (s := ⟨none, 0, 0⟩) (x := t) tInts (by decide) hnI hseg (fun y hy => by
            obtain ⟨r, _, hr⟩ := List.mem_flatMap.1 hy
            exact encI_one r y hr) (by show 0 + t.n ≤ _; omega) (by show (0 + t.n) * 8 ≤ _; omega) fun s23 u24 ho23 _ => ?_)
          rw [List.nil_append] at ho23
          have hn24 := ho23.le _ _ hn
          refine ⟨_, rfl, s, by rw [add1]; exact H.cell?_of hn24 1, ?_⟩
          refine sem_slice (P := Tryz.prog) tRows (l := 0) (h := k) (m := s.c) (.inl ⟨rfl, rfl⟩) (.inr rfl) (.inl ⟨rfl, rfl⟩) (by omega) (by omega) (Nat.le_refl _) hcap ?_
          have hA := (hR'.mono ho23.le).part (l := 0) (h := k) (m := s.c) (by omega) (by omega) (by omega) (Nat.le_refl _)
          simp only [List.drop_zero, Nat.sub_zero] at hA
          have hAn : (s.part 0 k s.c 2).n = k := by simp [Sl.part]
          have hnR : OwnF u24 u24 43 2 ⟨none, 0, 0⟩ [] := OwnF.nil (H.le.refl u24) 43 2
          refine sem_appendF (s := ⟨none, 0, 0⟩) (x := s.part 0 k s.c 2) tRows (by decide) hnR hA.1 (hmR _) (by rw [hAn]; show 0 + k ≤ _; omega) (by rw [hAn]; show (0 + k) * 32 ≤ _; omega) fun s29 u30 ho29 hn29 => ?_
          rw [hAn] at hn29
          have hn29' : s29.n = k := by rw [hn29]; exact Nat.zero_add k
          rw [List.nil_append] at ho29
          refine sem_push' tRows (build_row1 id s23) (by decide) rfl (by simp [Value.oneCell']) ho29 (by omega) (by omega) fun s33 u34 ho33 hn33 _ _ _ => ?_
          have hfl : (L.take k).flatMap encR ++ [.int .i64 id, .slice s23.a s23.n s23.c] = (L.take k ++ [(⟨id, s23, q⟩ : Rw)]).flatMap encR := by simp [encR]
          rw [hfl] at ho33
          have hle34 : u.le u34 := ho23.le.trans ho33.le
          refine sem_appendF (s := s33) (x := s21) tRows (by decide) ho33 (h21.mono hle34).1 (hmR _) (by omega) (by omega) fun s35 u36 ho35 _ => ⟨_, rfl, st_tab (ho35.le _ _ hn24) ?_⟩
          rw [← List.flatMap_append] at ho35
          have hL' : L.take k ++ [(⟨id, s23, q⟩ : Rw)] ++ L.filter (fun r => decide (id < r.id)) = L.filter (fun x => decide (x.id < id)) ++ ⟨id, s23, q⟩ :: L.filter (fun x => decide (id < x.id)) := by rw [e1]; simp
          rw [hL'] at ho35
          have hsrt := srt_take h.srt (r := (⟨id, s23, q⟩ : Rw))
          have hle36 : u.le u36 := ho23.le.trans ho35.le
          have hin : ∀ r ∈ L.filter (fun x => decide (x.id < id)) ++ (⟨id, s23, q⟩ : Rw) :: L.filter (fun x => decide (id < x.id)), Ints v r.s r.v ∨ (Ints u36 r.s r.v ∧ ∀ g, r.s.blk = some g → u g = none) := fun r hr => by
            rcases List.mem_append.1 hr with hr | hr
            · exact .inl (hR.2 r (List.mem_filter.1 hr).1)
            · rcases List.mem_cons.1 hr with rfl | hr
              · exact .inr ⟨(ho23.mono ho35.le).ints, fun g hg => ho23.fresh g hg⟩
              · exact .inl (hR.2 r (List.mem_filter.1 hr).1)
          obtain ⟨k1, k2⟩ := tab_new hle36 hn hv hvn (ho35.weaken ho23.le) hin hsrt
          have hmay : mayErr id q dim (decide (id ∈ L.map (·.id))) L.length = 0 := by
            unfold mayErr
            rw [if_neg hnid, if_neg (by simpa using he), if_neg]
            rintro ⟨h5, h6⟩
            have h7 : id ∉ L.map (·.id) := by simpa using h5
            have := hsm (hbb.2 h7)
            omega
          have hbd : decide (id ∉ L.map (·.id)) = bb := by
            cases bb with
            | true => exact decide_eq_true (hbb.1 rfl)
            | false => exact decide_eq_false fun h5 => by have := hbb.2 h5; cases this
          have := hok hmay _ _ k1 (by
            rw [List.map_append, List.map_cons, pr_lt, pr_gt]
            rfl) k2
          rw [hbd] at this
          exact this
        refine ⟨fun hb => ?_, fun hb => ?_⟩
        · have hbf' : bb = false := by simpa using hb
          obtain ⟨r, hr, hrid⟩ := hbf hbf'
          have hkl : k < L.length := (List.getElem?_eq_some_iff.1 hr).1
          refine ⟨_, rfl, s, c1, ⟨by omega, by omega⟩, ?_⟩
          refine sem_slice (P := Tryz.prog) tRows (l := k + 1) (h := s.n) (m := s.c) (.inr rfl) (.inl ⟨rfl, rfl⟩) (.inl ⟨rfl, rfl⟩) (by omega) hcap (Nat.le_refl _) hcap ?_
          have hB := hR'.part (l := k + 1) (h := s.n) (m := s.c) (by omega) (Nat.le_refl _) hcap (Nat.le_refl _)
          rw [List.take_of_length_le (by simp; omega), e4 r hr hrid] at hB
          exact rest _ hB (by show s.n - (k + 1) ≤ _; omega)
        · have hB := hR'.part (l := k) (h := s.n) (m := s.c) (by omega) (Nat.le_refl _) hcap (Nat.le_refl _)
          rw [List.take_of_length_le (by simp; omega), hbt hb] at hB
          exact rest _ hB (by show s.n - k ≤ _; omega)
      refine ⟨fun hb => ⟨_, rfl, s, c1, fun hmany => bad 2 ?_ (by decide), fun hfew => put (fun _ => by omega) _ _⟩, fun hb => put (fun h5 => by rw [hb] at h5; cases h5) _ _⟩
      have h7 : id ∉ L.map (·.id) := hbb.1 hb
      unfold mayErr
      rw [if_neg hnid, if_neg (by simpa using he), if_pos ⟨decide_eq_false h7, by omega⟩]
    have nin : (∀ r ∈ L, r.id ≠ id) → id ∉ L.map (·.id) := fun h5 hm => by
      obtain ⟨r, hr, e⟩ := List.mem_map.1 hm
      exact h5 r hr e
    refine ⟨_, rfl, s, c1, fun hke => ?_, fun hke => ?_⟩
    · have hkl : L.length ≤ k := by omega
      obtain ⟨f1, f2⟩ := e3 hkl
      exact fresh true ⟨fun _ => nin f2, fun _ => rfl⟩ (fun h5 => by cases h5) fun _ => by rw [f1, List.drop_eq_nil_of_le hkl]
    · have hkl : k < L.length := by omega
      obtain ⟨p, hp, r, hr, d0, d1, d2⟩ := hR'.at (x := (k : Int)) (by omega) (by omega)
      rw [Int.toNat_natCast] at hr
      refine ⟨_, rfl, s, c1, p, hp, ⟨by omega, by omega⟩, _, d0, ?_⟩
      by_cases hrid : r.id = id
      · have : (!decide (r.id = id)) = false := by simp [hrid]
        rw [this]
        exact fresh false ⟨fun h5 => (by cases h5), fun h5 => absurd (List.mem_map.2 ⟨r, List.mem_of_getElem? hr, hrid⟩) h5⟩ (fun _ => ⟨r, hr, hrid⟩) fun h5 => by cases h5
      · have : (!decide (r.id = id)) = true := by simp [hrid]
        rw [this]
        obtain ⟨f1, f2⟩ := e2 r hr hrid
        exact fresh true ⟨fun _ => nin f2, fun _ => rfl⟩ (fun h5 => by cases h5) fun _ => f1
  refine ⟨fun i w => w = u ∧ 0 ≤ i ∧ i ≤ L.length ∧ ∀ (j : Nat) r, j < i.toNat → L[j]? = some r → r.id < id, fun i _ => L.length - i.toNat, ⟨rfl, by omega, by omega, fun j r hj => by simp at hj⟩, ?_⟩
  rintro i w ⟨rfl, i0, i1, hbef⟩
  intro K55 hK55
  refine ⟨_, rfl, s, c1, fun hil => ?_, fun hig => ?_⟩
  · obtain ⟨p, hp, r, hr, d0, d1, d2⟩ := hR'.at i0 hil
    refine ⟨_, rfl, s, c1, p, hp, ⟨i0, hil⟩, _, d0, fun hlt => hK55 _ ⟨⟨by omega, by omega⟩, ⟨rfl, by omega, by omega, fun j r' hj hr' => ?_⟩, by dsimp only; omega⟩, fun hge => ?_⟩
    · by_cases e : j = i.toNat
      · rw [e, hr] at hr'; cases hr'; exact hlt
      · exact hbef j r' (by omega) hr'
    · have := found i.toNat (by omega) hbef fun r' hr' => by rw [hr] at hr'; cases hr'; omega
      rw [Int.toNat_of_nonneg i0] at this
      exact this
  · have := found i.toNat (by omega) hbef fun r' hr' => by
      have := (List.getElem?_eq_some_iff.1 hr').1
      omega
    rw [Int.toNat_of_nonneg i0] at this
    exact this

end Go.Proofs.YtljbcihbgeiacaaGreat

/- VcTable2 -/
namespace Go.Proofs.YtljbcihbgeiacaaGreat

theorem tputP_perm {P : List Pr} {id : Int} (h : id ∉ P.map (·.1)) (v : List Int) : (tputP P id v).Perm ((id, v) :: P) := by
  unfold tputP
  refine List.perm_middle.trans (List.Perm.cons _ ?_)
  induction P with
  | nil => exact List.Perm.refl _
  | cons p P ih =>
    simp only [List.map_cons, List.mem_cons, not_or] at h
    have := ih h.2
    rcases Int.lt_trichotomy p.1 id with h1 | h1 | h1
    · have a1 : decide (p.1 < id) = true := by simpa using h1
      have a2 : decide (id < p.1) = false := by simp; omega
      simp only [List.filter_cons, a1, a2, if_true, Bool.false_eq_true, if_false, List.cons_append]
      exact List.Perm.cons _ this
    · exact absurd h1.symm h.1
    · have a1 : decide (p.1 < id) = false := by simp; omega
      have a2 : decide (id < p.1) = true := by simpa using h1
      simp only [List.filter_cons, a1, a2, if_true, Bool.false_eq_true, if_false]
      exact List.perm_middle.trans (List.Perm.cons _ this)

/-- Rising rows are told by what they are alone. -/
theorem pr_rise_eq {P Q : List Pr} (hp : P.Pairwise fun a b => a.1 < b.1) (hq : Q.Pairwise fun a b => a.1 < b.1) (h : P.Perm Q) : P = Q := by
  induction P generalizing Q with
  | nil => exact (List.eq_nil_of_length_eq_zero (by have := h.length_eq; simpa using this.symm)).symm
  | cons p P ih =>
    cases Q with
    | nil => have := h.length_eq; simp at this
    | cons q Q =>
      obtain ⟨h1, h2⟩ := List.pairwise_cons.1 hp
      obtain ⟨h3, h4⟩ := List.pairwise_cons.1 hq
      have e : p = q := by
        have hpq : p ∈ q :: Q := h.mem_iff.1 (.head _)
        have hqp : q ∈ p :: P := h.mem_iff.2 (.head _)
        rcases List.mem_cons.1 hpq with h5 | h5
        · exact h5
        · rcases List.mem_cons.1 hqp with h6 | h6
          · exact h6.symm
          · have := h3 p h5; have := h1 q h6; omega
      subst e
      rw [ih h2 h4 ((List.perm_cons p).1 h)]

theorem TabAt.rise {u : H} {n : Nat} {dim : Int} {L : List Rw} (h : TabAt u n dim L) : (L.map Rw.pr).Pairwise fun a b => a.1 < b.1 := List.pairwise_map.2 h.srt

theorem ids_pr (L : List Rw) : L.map (·.id) = (L.map Rw.pr).map (·.1) := by rw [List.map_map]; rfl

theorem spec.theodoliteref05_Of {s : Sl} {l : List Rw} {d : Int} {u : H} {K : Option Addr → H → Prop} (hs : Rws u s l) (hl : Rok l d) (hK : ∀ n u' L, u n = none → u.le u' → TabAt u' n d L → (L.map Rw.pr).Perm (l.map Rw.pr) → K (some ⟨n, 0, none⟩) u') : C.theodoliteref05_Of s d u K := by
  have hsn := hs.len
  have hlen := hl.len
  apply vc.theodoliteref05_Of
  intro n hn
  have hle := H.le_ins (u := u) (b := n) (.cells #[.int .i64 d, .slice none 0 0] 91 (0, 0)) hn
  refine ⟨fun i w => 0 ≤ i ∧ i ≤ l.length ∧ u.le w ∧ ∃ L, TabAt w n d L ∧ (L.map Rw.pr).Perm ((l.take i.toNat).map Rw.pr), fun i _ => l.length - i.toNat,
    ⟨by omega, by omega, hle, [], ⟨⟨⟨none, 0, 0⟩, u, H.ins_same _ _ _, hle, hn, Rws.nil u⟩, List.Pairwise.nil⟩, by simp⟩, ?_⟩
  rintro i w ⟨i0, i1, hw, L, hT, hp⟩
  refine ⟨fun hil => ?_, fun hig => ?_⟩
  · obtain ⟨p, hp', r, hr, c0, c1, c2⟩ := (hs.mono hw).at i0 hil
    have hi : i.toNat < l.length := by omega
    have hrm : r ∈ l := List.mem_of_getElem? hr
    have hLl : L.length = i.toNat := by have := hp.length_eq; simp at this; omega
    have hnin : r.id ∉ L.map (·.id) := fun hm => by
      rw [ids_pr] at hm
      have hm2 := ((hp.map (·.1)).mem_iff (a := r.id)).1 hm
      rw [← ids_pr] at hm2
      obtain ⟨r', hr', e⟩ := List.mem_map.1 hm2
      obtain ⟨j, hj, rfl⟩ := List.mem_iff_getElem.1 hr'
      simp only [List.length_take] at hj
      rw [List.getElem_take] at e
      have := List.pairwise_iff_getElem.1 hl.nodup j i.toNat (by simp; omega) (by simp; omega) (by omega)
      simp only [List.getElem_map] at this
      rw [List.getElem?_eq_getElem hi] at hr
      rw [Option.some.inj hr] at this
      exact this e
    have hv := hl.v r hrm
    have hid := hl.id r hrm
    have hmay : mayErr r.id r.v d (decide (r.id ∈ L.map (·.id))) L.length = 0 := by
      unfold mayErr
      rw [if_neg (by omega), if_neg, if_neg]
      · rintro ⟨_, h2⟩; omega
      · have := ok_vcheck hv.2 (by have := hl.dim; have := hv.1; omega)
        rw [hv.1] at this
        simpa using this
    refine ⟨p, hp', ⟨i0, hil⟩, _, c0, _, c1, spec.theodoliteref05_Table__Put hT (by omega) c2 (fun h => absurd hmay h) fun _ u' L' hT' hL' hk => ⟨⟨by omega, by omega⟩, ⟨by omega, by omega, fun c o hc => hk c o (hw c o hc) fun e => (by rw [e, hn] at hc; cases hc), L', hT', ?_⟩, by dsimp only; omega⟩⟩
    rw [hL', show (i + 1).toNat = i.toNat + 1 by omega, List.take_add_one, hr, List.map_append]
    refine (tputP_perm (by rw [← ids_pr]; exact hnin) r.v).trans ?_
    refine (List.Perm.cons _ hp).trans ?_
    exact (List.perm_append_singleton _ _).symm
  · have hi : i.toNat = l.length := by
      have : ¬ i < (s.n : Int) := hig
      omega
    rw [hi, List.take_length] at hp
    exact hK n w L hn hw hT hp

end Go.Proofs.YtljbcihbgeiacaaGreat

/- VcIxIv -/
namespace Go.Proofs.YtljbcihbgeiacaaGreat

abbrev Tr := Iv.Tr
abbrev ixRows (X : Tr) : List Pr := Iv.ixRows X
noncomputable abbrev ixH (X : Tr) (q : List Int) (k bud : Int) : List Hit := Iv.ixH X q k bud
noncomputable abbrev ixS (X : Tr) (q : List Int) (k bud : Int) : List Int := Iv.ixS X q k bud
noncomputable abbrev ixR (X : Tr) (q : List Int) (k bud : Int) : List (Int × Int × List Int × List Int × List Int) := Iv.ixR X q k bud
abbrev ixErr (l : List Rw) (dim A B : Int) : Int := Iv.ixErr l dim A B

/-- Nothing grows with the calls. -/
def ixGas (_ : Tr) : Nat := 0

/-- No table is needed. -/
def TabU (_ : H) : Prop := True

theorem TabU.mono {u u' : H} (_ : TabU u) (_ : u.le u') : TabU u' := trivial

/-- An index in memory: D: the blocks that are its own, all made behind u0. -/
abbrev Ix (u0 u : H) (D : Nat → Prop) (b : Nat) (X : Tr) : Prop := IxG Iv.TrAt Iv.TOk u0 u D b X

theorem Ix.base {u0 u : H} {D : Nat → Prop} {b : Nat} {X : Tr} (h : Ix u0 u D b X) : u0.le u ∧ (∀ c, D c → u0 c = none) ∧ ∀ c, D c → u c ≠ none := IxG.base h
theorem Ix.same {u0 u u' : H} {D : Nat → Prop} {b : Nat} {X : Tr} (h : Ix u0 u D b X) (hu : ∀ c o, u c = some o → D c → u' c = some o) (hle : u0.le u') : Ix u0 u' D b X := IxG.same Iv.keep h hu hle
theorem Ix.mono {u0 u u' : H} {D : Nat → Prop} {b : Nat} {X : Tr} (h : Ix u0 u D b X) (hu : u.le u') : Ix u0 u' D b X := IxG.mono Iv.keep h hu
theorem Ix.rebase {u0 u v : H} {D : Nat → Prop} {b : Nat} {X : Tr} (h : Ix u0 u D b X) (hv : v.le u0) : Ix v u D b X := IxG.rebase h hv

theorem spec.ix_Len {u0 u : H} {D : Nat → Prop} {b : Nat} {X : Tr} {K : Int → H → Prop} (h : Ix u0 u D b X) (hK : K (ixRows X).length u) : C.ivf_Tree__Len (some ⟨b, 0, none⟩) u K := by
  obtain ⟨fp, _, h2, h3⟩ := IxG.ex h
  exact Iv.spec.Len h2 h3 hK

theorem spec.ix_Put0 {u0 u : H} {D : Nat → Prop} {b : Nat} {X : Tr} {id : Int} {t : Sl} {q : List Int} {K : Bool → Int → H → Prop} (h : Ix u0 u D b X) (ht : Ints u t q) (hts : ∀ (fp : Nat → Option Iv.Tg) u1 (fp1 : Nat → Option Iv.Tg), (∀ c, D c ↔ fp c ≠ none) → u0.le u1 → TurnG u fp u1 fp1 → Ints u1 t q)
    (hbad : mayErr id q X.dim (decide (id ∈ (ixRows X).map (·.1))) (ixRows X).length ≠ 0 → K false (mayErr id q X.dim (decide (id ∈ (ixRows X).map (·.1))) (ixRows X).length) u)
    (hok : mayErr id q X.dim (decide (id ∈ (ixRows X).map (·.1))) (ixRows X).length = 0 → ∀ u' D' X', Ix u0 u' D' b X' → IxTurn u D u' D' → (ixRows X').Perm ((id, q) :: (ixRows X).filter fun x => x.1 != id) → X'.dim = X.dim → X'.links = X.links → ixGas X' ≤ ixGas X + 1 → K (decide (id ∉ (ixRows X).map (·.1))) 0 u') :
    C.ivf_Tree__Put (some ⟨b, 0, none⟩) id t u K := by
  obtain ⟨fp, h1, h2, h3⟩ := IxG.ex h
  exact Iv.spec.Put h2 h3 ht (fun u1 fp1 hle ht1 => hts fp u1 fp1 h1 hle ht1) hbad fun he u' fp' T' hr => hok he u' _ T' (ixg_of hr.is hr.ok) (turn_ixg h1 hr.turn) hr.rows hr.dim (by unfold Iv.Tr.links; rw [hr.cs]) (Nat.zero_le _)

theorem spec.ix_Put {u0 u : H} {D : Nat → Prop} {b : Nat} {X : Tr} {id : Int} {t : Sl} {q : List Int} {K : Bool → Int → H → Prop} (h : Ix u0 u D b X) (_ : ixGas X ≤ 2700) (_ : TabU u0) (ht : Ints u t q) (hts : ∀ g, t.blk = some g → ¬ D g)
    (hbad : mayErr id q X.dim (decide (id ∈ (ixRows X).map (·.1))) (ixRows X).length ≠ 0 → K false (mayErr id q X.dim (decide (id ∈ (ixRows X).map (·.1))) (ixRows X).length) u)
    (hok : mayErr id q X.dim (decide (id ∈ (ixRows X).map (·.1))) (ixRows X).length = 0 → ∀ u' D' X', Ix u0 u' D' b X' → IxTurn u D u' D' → (ixRows X').Perm ((id, q) :: (ixRows X).filter fun x => x.1 != id) → X'.dim = X.dim → X'.links = X.links → ixGas X' ≤ ixGas X + 1 → K (decide (id ∉ (ixRows X).map (·.1))) 0 u') :
    C.ivf_Tree__Put (some ⟨b, 0, none⟩) id t u K :=
  spec.ix_Put0 h ht (fun fp u1 fp1 h1 _ ht1 => Seg.else ht fun g o hg ho => ht1.keep g o ho (by
    cases e : fp g with
    | none => rfl
    | some x => exact absurd ((h1 g).2 (by rw [e]; simp)) (hts g hg))) hbad hok

theorem spec.ix_Delete {u0 u : H} {D : Nat → Prop} {b : Nat} {X : Tr} {id : Int} {K : Bool → Int → H → Prop} (h : Ix u0 u D b X) (_ : ixGas X ≤ 2700) (hno : id ∉ (ixRows X).map (·.1) → ∀ u', u.le u' → K false 0 u')
    (hyes : id ∈ (ixRows X).map (·.1) → ∀ u' D' X', Ix u0 u' D' b X' → IxTurn u D u' D' → ixRows X' = (ixRows X).filter (fun x => x.1 != id) → X'.dim = X.dim → X'.links = X.links → ixGas X' ≤ ixGas X → K true 0 u') : C.ivf_Tree__Delete (some ⟨b, 0, none⟩) id u K := by
  obtain ⟨fp, h1, h2, h3⟩ := IxG.ex h
  have hw : id ∈ X.w.map (·.1) ↔ id ∈ (ixRows X).map (·.1) := by rw [show ixRows X = Iv.ixRows X from rfl, Iv.ixRows_ids]; exact h3.wids
  exact Iv.spec.Delete h2 h3 (fun hn => hno fun hm => hn (hw.2 hm)) fun hn u' fp' T' hr => hyes (hw.1 hn) u' _ T' (ixg_of hr.is hr.ok) (turn_ixg h1 hr.turn) hr.rows hr.dim (by unfold Iv.Tr.links; rw [hr.cs]) (Nat.le_refl _)

/-- How the centres came to be. -/
def ixWay (l : List Rw) (dim A B seed : Int) (c : List (List Int)) : Prop := ∃ P : List (Int × List Int), P.Perm (l.map Rw.pr) ∧ (P.Pairwise fun x y => x.1 < y.1) ∧ c = Iv.centI seed A B dim.toNat (P.map (·.2))

theorem spec.ix_Build {s : Sl} {l : List Rw} {dim A B seed : Int} {u : H} {K : Option Addr → Int → H → Prop} (hs : Rws u s l) (_ : TabU u) (_ : U64 seed)
    (hbad : ixErr l dim A B ≠ 0 → K none (ixErr l dim A B) u) (hok : ixErr l dim A B = 0 → ∀ b D X u', Ix u u' D b X → (ixRows X).Perm (l.map Rw.pr) → X.dim = dim → ixWay l dim A B seed X.links → ixGas X = 0 → K (some ⟨b, 0, none⟩) 0 u') : C.theodolitelaw09_build s dim A B seed u K := by
  apply vc.theodolitelaw09_build
  exact Iv.spec.Build hs hbad fun he u' b _ T hr => hok he b _ T u' (ixg_of hr.is hr.ok) hr.rows hr.dim hr.cs rfl

theorem spec.ix_Search {u0 u : H} {D : Nat → Prop} {b : Nat} {X : Tr} {t : Sl} {q : List Int} {k bud : Int} {K : Sl → Sl → Sl → Int → H → Prop} (h : Ix u0 u D b X) (_ : ixGas X ≤ 2700) (ht : Ints u t q)
    (hbad : askErr q X.dim k bud ≠ 0 → ∀ u', u.le u' → K ⟨none, 0, 0⟩ ⟨none, 0, 0⟩ ⟨none, 0, 0⟩ (askErr q X.dim k bud) u')
    (hok : askErr q X.dim k bud = 0 → ∀ sh ss sr rest u', AnsO u u' sh ss sr (ixH X q k bud) (ixS X q k bud) rest → rest.map Rgn.core = ixR X q k bud → K sh ss sr 0 u') : C.ivf_Tree__Search (some ⟨b, 0, none⟩) t k bud u K := by
  obtain ⟨fp, _, h2, h3⟩ := IxG.ex h
  exact Iv.spec.Search h2 h3 ht (fun hne => hbad hne u (H.le.refl u)) hok

theorem ix_sound3 {u0 u : H} {D : Nat → Prop} {b : Nat} {X : Tr} (h : Ix u0 u D b X) {q : List Int} {k bud : Int} (he : askErr q X.dim k bud = 0) {L : List Rw} (hL : (L.map Rw.pr).Perm (ixRows X)) (hq : Qok L q) {rest : List Rgn} (hr : rest.map Rgn.core = ixR X q k bud) :
    Sound L q k (ixH X q k bud) (ixS X q k bud) rest ∧ ((ixS X q k bud).length : Int) ≤ bud ∧ (((ixS X q k bud).length : Int) = bud ∨ (ixS X q k bud).length = L.length ∨ CertA q k (ixH X q k bud) rest) := by
  obtain ⟨fp, _, h2, h3⟩ := IxG.ex h
  obtain ⟨hv, k1, _, b0, _⟩ := askErr_ok.1 he
  exact Iv.tree_sound h3 k1 b0 (vcheck_ok hv).2.2.1 hL hq hr

theorem ixErr_rok {l : List Rw} {d A B : Int} (h : ixErr l d A B = 0) : Rok l d := by
  unfold ixErr Iv.ixErr at h
  split at h
  · rename_i h1; exact absurd h h1
  · rename_i h1
    exact rcheck_ok.1 (Classical.not_not.1 h1)

end Go.Proofs.YtljbcihbgeiacaaGreat

/- VcLawT1 -/
namespace Go.Proofs.YtljbcihbgeiacaaGreat

structure Cll where
  kind : Int
  id : Int
  k : Int
  bud : Int
  rid : Int
  rv : Sl
  v : List Int
  qs : Sl
  q : List Int

def encO (o : Cll) : List Value := [.int .i64 o.kind, .int .i64 o.id, .int .i64 o.k, .int .i64 o.bud, .int .i64 o.rid, .slice o.rv.a o.rv.n o.rv.c, .slice o.qs.a o.qs.n o.qs.c]
theorem encO_len (o : Cll) : (encO o).length = 7 := rfl
theorem encO_one (o : Cll) : ∀ v ∈ encO o, v.oneCell' = true := by simp [encO, Value.oneCell']

/-- Calls in memory. -/
def Ops (u : H) (s : Sl) (l : List Cll) : Prop := Seg u s 7 (l.flatMap encO) ∧ ∀ o ∈ l, Ints u o.rv o.v ∧ Ints u o.qs o.q

theorem Ops.len {u : H} {s : Sl} {l : List Cll} (h : Ops u s l) : s.n = l.length := flat_n encO_len (by decide) h.1
theorem Ops.max {u : H} {s : Sl} {l : List Cll} (h : Ops u s l) : s.n ≤ 9223372036854775807 := Nat.le_trans (Seg.cap h.1) (Seg.max h.1)
theorem Ops.mono {u u' : H} {s : Sl} {l : List Cll} (h : Ops u s l) (k : u.le u') : Ops u' s l := ⟨h.1.mono k, fun o ho => ⟨(h.2 o ho).1.mono k, (h.2 o ho).2.mono k⟩⟩
theorem Ops.nil (u : H) : Ops u ⟨none, 0, 0⟩ [] := ⟨⟨rfl, Nat.le_refl _, by decide, .inl rfl⟩, fun _ h => by cases h⟩

theorem Ops.at {u : H} {s : Sl} {l : List Cll} (h : Ops u s l) {x : Int} (h0 : 0 ≤ x) (h1 : x < (s.n : Int)) : ∃ p, s.a = some p ∧ ∃ o : Cll, l[x.toNat]? = some o ∧ o ∈ l ∧ u.cell? (p.add (x.toNat * 7)) = some (.int .i64 o.kind) ∧ u.cell? ((p.add (x.toNat * 7)).add 1) = some (.int .i64 o.id) ∧
    u.cell? ((p.add (x.toNat * 7)).add 2) = some (.int .i64 o.k) ∧ u.cell? ((p.add (x.toNat * 7)).add 3) = some (.int .i64 o.bud) ∧ u.cell? ((p.add (x.toNat * 7)).add 4) = some (.int .i64 o.rid) ∧
    u.cell? ((p.add (x.toNat * 7)).add 5) = some (.slice o.rv.a o.rv.n o.rv.c) ∧ u.cell? ((p.add (x.toNat * 7)).add 6) = some (.slice o.qs.a o.qs.n o.qs.c) ∧ Ints u o.rv o.v ∧ Ints u o.qs o.q := by
  have hn := h.len
  have hlt : x.toNat < l.length := by omega
  have hx : l[x.toNat]? = some l[x.toNat] := List.getElem?_eq_getElem hlt
  obtain ⟨p, hp, hc⟩ := Seg.elem encO_len (by decide) h.1 hx
  have h0' := hc 0 _ rfl
  rw [Addr.add_zero'] at h0'
  have hm := List.getElem_mem hlt
  exact ⟨p, hp, _, hx, hm, h0', hc 1 _ rfl, hc 2 _ rfl, hc 3 _ rfl, hc 4 _ rfl, hc 5 _ rfl, hc 6 _ rfl, (h.2 _ hm).1, (h.2 _ hm).2⟩

/-- What comes in: rows, calls. -/
structure Come2 (u : H) (s t : Sl) (l : List Rw) (ops : List Cll) : Prop where
  rows : Rws u s l
  calls : Ops u t ops
  small : ∀ r ∈ l, r.v.length ≤ 17592186044416
  sn : s.n ≤ 17592186044416
  smallO : ∀ o ∈ ops, o.v.length ≤ 17592186044416 ∧ o.q.length ≤ 17592186044416
  tn : t.n ≤ 17592186044416

theorem spec.theodolitelaw09_big {s t : Sl} {l : List Rw} {ops : List Cll} {u : H} {K : Bool → H → Prop} (hc : Come2 u s t l ops) (h1 : K true u)
    (h2 : l.length ≤ 2000 → ops.length ≤ 2000 → (∀ r ∈ l, r.v.length ≤ 32768) → (∀ o ∈ ops, o.v.length ≤ 32768 ∧ o.q.length ≤ 32768) → K false u) : C.theodolitelaw09_big s t u K := by
  have hsn := hc.rows.len
  have htn := hc.calls.len
  apply vc.theodolitelaw09_big
  intro K0 hK0
  refine ⟨fun _ => h1, fun ht => ⟨fun _ => h1, fun hs => spec.theodolitekeep_Vectors' hc.rows hc.small hc.sn (by omega) fun x hx => ⟨fun _ => h1, fun hx' => hK0 _ _ ?_⟩⟩⟩
  have hv : ∀ r ∈ l, r.v.length ≤ 32768 := fun r hr => by have := hx (by omega) r hr; omega
  have fin : ∀ n : Int, (n ≤ 32768 → ∀ o ∈ ops, o.v.length ≤ 32768 ∧ o.q.length ≤ 32768) → ∀ bb : Bool, (bb = true ↔ 32768 < n) → K bb u := fun n hn bb hb => by
    cases bb with
    | true => exact h1
    | false => exact h2 (by omega) (by omega) hv (hn (by
        by_cases e : 32768 < n
        · have := hb.2 e; cases this
        · omega))
  refine ⟨fun n i w => w = u ∧ 0 ≤ i ∧ i ≤ ops.length ∧ 0 ≤ n ∧ ∀ o ∈ ops.take i.toNat, (o.v.length : Int) ≤ n ∧ (o.q.length : Int) ≤ n, fun _ i _ => ops.length - i.toNat, ⟨rfl, by omega, by omega, by omega, fun o ho => by simp at ho⟩, ?_⟩
  rintro n i w ⟨rfl, i0, i1, n0, hacc⟩
  intro K8 hK8
  refine ⟨fun hil => ⟨fun hn => hK8 _ ?_, fun hn => fin n (fun h => absurd h hn) _ (by simp)⟩, fun hig => fin n (fun hn o ho => ?_) _ (by simp)⟩
  · obtain ⟨p, hp, o, ho, hom, c0, c1, c2, c3, c4, c5, c6, hv1, hv2⟩ := hc.calls.at i0 hil
    have l1 := hv1.len
    have l2 := hv2.len
    obtain ⟨s1, s2⟩ := hc.smallO o hom
    refine ⟨p, hp, ⟨i0, hil⟩, p, hp, ⟨i0, hil⟩, _, by rw [Addr.add_add']; exact c5, ⟨by omega, by omega⟩, _, c6, ⟨by omega, by omega⟩, ⟨by omega, by omega⟩, ⟨rfl, by omega, by omega, by omega, fun o' ho' => ?_⟩, by dsimp only; omega⟩
    rw [show (i + 1).toNat = i.toNat + 1 by omega, List.take_add_one, ho] at ho'
    rcases List.mem_append.1 ho' with h' | h'
    · have := hacc o' h'; omega
    · simp at h'; subst h'; omega
  · have hi : i.toNat = ops.length := by
      have : ¬ i < (t.n : Int) := hig
      omega
    rw [hi, List.take_length] at hacc
    have := hacc o ho
    omega

theorem build_rows4' (a b c d : Sl) : buildOf Tryz.prog 22 4 #[(0, .agg #[.int .i64 1, .slice a.a a.n a.c]), (1, .agg #[.int .i64 2, .slice b.a b.n b.c]), (2, .agg #[.int .i64 3, .slice c.a c.n c.c]), (3, .agg #[.int .i64 4, .slice d.a d.n d.c])] =
    some (43, [.int .i64 1, .slice a.a a.n a.c, .int .i64 2, .slice b.a b.n b.c, .int .i64 3, .slice c.a c.n c.c, .int .i64 4, .slice d.a d.n d.c]) := by kernel_rfl

def exT (a b c d : Sl) : List Rw := [⟨1, a, [0, 0]⟩, ⟨2, b, [3, 4]⟩, ⟨3, c, [0, 1]⟩, ⟨4, d, [30, 40]⟩]

theorem spec.theodolitelaw09_rows {u : H} {K : Sl → H → Prop} (h : ∀ s u' a b c d, u.le u' → Rws u' s (exT a b c d) → K s u') : C.theodolitelaw09_rows u K := by
  apply vc.theodolitelaw09_rows
  refine sem_build (build_ints2 _ _) fun g1 h1 => sem_build (build_ints2 _ _) fun g2 h2 => sem_build (build_ints2 _ _) fun g3 h3 => sem_build (build_ints2 _ _) fun g4 h4 => sem_build (build_rows4' _ _ _ _) fun g5 h5 => ?_
  have i1 := ints_made (H.le.refl u) h1 [0, 0] 3 (by simp)
  have i2 := ints_made (H.le.refl _) h2 [3, 4] 3 (by simp)
  have i3 := ints_made (H.le.refl _) h3 [0, 1] 3 (by simp)
  have i4 := ints_made (H.le.refl _) h4 [30, 40] 3 (by simp)
  have l1 := H.le_ins (u := u) (b := g1) (.cells [Value.int .i64 0, .int .i64 0].toArray 3 (0, 0)) h1
  have l2 := H.le_ins (b := g2) (.cells [Value.int .i64 3, .int .i64 4].toArray 3 (0, 0)) h2
  have l3 := H.le_ins (b := g3) (.cells [Value.int .i64 0, .int .i64 1].toArray 3 (0, 0)) h3
  have l4 := H.le_ins (b := g4) (.cells [Value.int .i64 30, .int .i64 40].toArray 3 (0, 0)) h4
  have m := OwnF.make (k := 2) (H.le.refl _) h5 (cells := [Value.int .i64 1, .slice (some ⟨g1, 0, none⟩) 2 2, .int .i64 2, .slice (some ⟨g2, 0, none⟩) 2 2, .int .i64 3, .slice (some ⟨g3, 0, none⟩) 2 2, .int .i64 4, .slice (some ⟨g4, 0, none⟩) 2 2].toArray) (e := 43) (n := 4) (by omega) rfl
  refine h _ _ ⟨some ⟨g1, 0, none⟩, 2, 2⟩ ⟨some ⟨g2, 0, none⟩, 2, 2⟩ ⟨some ⟨g3, 0, none⟩, 2, 2⟩ ⟨some ⟨g4, 0, none⟩, 2, 2⟩ ?_ ⟨m.own.seg, ?_⟩
  · exact (((l1.trans l2).trans l3).trans l4).trans m.le
  · intro r hr
    simp only [exT, List.mem_cons, List.not_mem_nil, or_false] at hr
    rcases hr with rfl | rfl | rfl | rfl
    · exact i1.mono (((l2.trans l3).trans l4).trans m.le)
    · exact i2.mono ((l3.trans l4).trans m.le)
    · exact i3.mono (l4.trans m.le)
    · exact i4.mono m.le

theorem exT_q (a b c d : Sl) : Qok (exT a b c d) [0, 0] := asked_ok.1 (by kernel_rfl)
theorem exT_top (a b c d : Sl) : topk 2 ((exT a b c d).map (hitOf [0, 0])) = [(1, 0), (3, 1)] := by kernel_rfl
theorem exT_build (a b c d : Sl) : ixErr (exT a b c d) 2 2 20 = 0 := by kernel_rfl

/-- With a budget for all a search tells the first k. -/
theorem ix_enough {u0 u : H} {D : Nat → Prop} {b : Nat} {X : Tr} (h : Ix u0 u D b X) {q : List Int} {k bud : Int} (he : askErr q X.dim k bud = 0) {L : List Rw} (hL : (L.map Rw.pr).Perm (ixRows X)) (hqok : Qok L q) (hb : (L.length : Int) ≤ bud) :
    ixH X q k bud = topk k.toNat (L.map (hitOf q)) ∧ (ixS X q k bud).length ≤ (ixRows X).length := by
  obtain ⟨hv, k1, k2, _, _⟩ := askErr_ok.1 he
  have hlen := hL.length_eq
  rw [List.length_map] at hlen
  obtain ⟨hS, h1, h2⟩ := ix_sound3 h he hL hqok (rgnOf_core (ixR X q k bud))
  have hal := hS.all.length_eq
  rw [List.length_append, List.length_map] at hal
  refine ⟨hS.certain hqok k1 ?_, by omega⟩
  have seenAll : (ixS X q k bud).length = L.length → CertA q k (ixH X q k bud) ((ixR X q k bud).map rgnOf) := fun h2 => by
    left
    generalize (ixR X q k bud).map rgnOf = rest at *
    cases rest with
    | nil => rfl
    | cons r rs =>
      have h3 := (hS.reg r (List.mem_cons_self ..)).2.1
      have h4 := List.length_pos_iff.2 h3
      rw [List.flatMap_cons, List.length_append] at hal
      omega
  rcases h2 with h2 | h2 | h2
  · exact seenAll (by omega)
  · exact seenAll h2
  · exact h2

theorem spec.theodolitelaw09_awake {u : H} {K : Bool → H → Prop} (hTab : TabU u) (h : ∀ u', u.le u' → K true u') : C.theodolitelaw09_awake u K := by
  apply vc.theodolitelaw09_awake
  have q0 : ∀ {w : H} {g : Nat} (hg : w g = none) (x y : Int), Ints (w.ins g (.cells [Value.int .i64 x, .int .i64 y].toArray 3 (0, 0))) ⟨some ⟨g, 0, none⟩, 2, 2⟩ [x, y] := fun {w g} hg x y => ints_made (H.le.refl w) hg [x, y] 3 (by simp)
  refine spec.theodolitelaw09_rows fun s0 u1 a b c d l1 r1 => ?_
  refine spec.ix_Build r1 (hTab.mono l1) ⟨by decide, by decide⟩ (fun hne => absurd (exT_build a b c d) hne) fun _ bt D X u4 hX hrows hdim hlinks hg0 => ?_
  have hlen : (ixRows X).length = 4 := by have := hrows.length_eq; simpa [exT] using this
  intro K5 hK5
  refine ⟨fun e => (by cases e), fun _ => ⟨fun e => absurd rfl e, fun _ => spec.ix_Len hX ⟨fun hne => absurd (by rw [hlen]; rfl) hne, fun _ => hK5 _ _ ?_⟩⟩⟩
  clear hK5 K5
  -- a search
  refine sem_build (build_ints2 0 0) fun g1 h1 => ?_
  have m1 := H.le_ins (u := u4) (b := g1) (.cells [Value.int .i64 0, .int .i64 0].toArray 3 (0, 0)) h1
  have hask : askErr [0, 0] X.dim 2 4 = 0 := by rw [hdim]; decide
  refine spec.ix_Search (hX.mono m1) (by omega) (q0 h1 0 0) (fun hne => absurd hask hne) fun _ s10 s11 s12 rest u14 ha hcore => ?_
  have hhits := (ix_enough hX hask (L := exT a b c d) hrows.symm (exT_q a b c d) (Int.le_refl _)).1
  have e2 : topk (Int.toNat 2) ((exT a b c d).map (hitOf [0, 0])) = [(1, 0), (3, 1)] := exT_top a b c d
  rw [e2] at hhits
  have hoh := ha.h
  rw [hhits] at hoh
  have hX14 := hX.mono (m1.trans ha.le)
  have hD10 : ∀ g, s10.blk = some g → ¬ D g := fun g hg hd => by
    have := ha.h.fresh g hg
    obtain ⟨o, ho⟩ := Option.ne_none_iff_exists'.1 (hX.base.2.2 g hd)
    rw [m1 _ _ ho] at this; cases this
  have hk10 : ∀ g, s10.blk = some g → ∃ o, u14 g = some o := fun g hg => Option.ne_none_iff_exists'.1 (own_known ha.h hg)
  clear hhits hcore ha
  -- puts and a deletion
  refine sem_build (build_ints2 9 9) fun g2 h2 => ?_
  have m2 := H.le_ins (u := u14) (b := g2) (.cells [Value.int .i64 9, .int .i64 9].toArray 3 (0, 0)) h2
  have hid : ∀ x, x ∈ (ixRows X).map (·.1) ↔ x ∈ ([1, 2, 3, 4] : List Int) := fun x => (hrows.map (·.1)).mem_iff
  have t3 : decide ((3 : Int) ∈ (ixRows X).map (·.1)) = true := decide_eq_true ((hid 3).2 (by decide))
  have t3' : decide ((3 : Int) ∉ (ixRows X).map (·.1)) = false := decide_eq_false fun h => h ((hid 3).2 (by decide))
  have hm3 : mayErr 3 [9, 9] X.dim (decide ((3 : Int) ∈ (ixRows X).map (·.1))) (ixRows X).length = 0 := by rw [t3, hdim, hlen]; decide
  have hDn : ∀ {z : H} {g : Nat}, (∀ c, D c → z c ≠ none) → z g = none → ∀ g', (⟨some ⟨g, 0, none⟩, 2, 2⟩ : Sl).blk = some g' → ¬ D g' := fun {z g} hz hg g' hg' hd => by
    have : g = g' := by simpa [Sl.blk] using hg'
    exact hz g' hd (by rw [← this]; exact hg)
  refine spec.ix_Put (hX14.mono m2) (by omega) (hTab.mono l1) (q0 h2 9 9) (hDn hX14.base.2.2 h2) (fun hne => absurd hm3 hne) fun _ u19 D2 X2 hX2 ht2 hr2 hd2 _ hg2 => ?_
  rw [t3']
  have hk19 : ∀ g, s10.blk = some g → ∀ o, u14 g = some o → u19 g = some o ∧ ¬ D2 g := fun g hg o ho => by
    refine ⟨ht2.keep g o (m2 _ _ ho) (hD10 g hg), fun hd => ?_⟩
    rcases ht2.grow g hd with h5 | h5
    · exact hD10 g hg h5
    · rw [m2 _ _ ho] at h5; cases h5
  have hp2 : (ixRows X2).Perm [(3, [9, 9]), (1, [0, 0]), (2, [3, 4]), (4, [30, 40])] := by
    refine hr2.trans (List.Perm.cons _ ?_)
    exact (hrows.filter _).trans (List.Perm.refl _)
  have hid2 : (1 : Int) ∈ (ixRows X2).map (·.1) := (hp2.map (·.1)).mem_iff.2 (by decide)
  refine spec.ix_Delete hX2 (by omega) (fun hno => absurd hid2 hno) fun _ u22 D3 X3 hX3 ht3 hr3 hd3 _ hg3 => ?_
  have hl3 : (ixRows X3).length = 3 := by
    rw [hr3]
    have := (hp2.filter fun x => x.1 != 1).length_eq
    exact this
  have hk22 : ∀ g, s10.blk = some g → ∀ o, u14 g = some o → u22 g = some o := fun g hg o ho => by
    obtain ⟨h5, h6⟩ := hk19 g hg o ho
    exact ht3.keep g o h5 h6
  refine sem_build (build_ints2 1 1) fun g3 h3 => ?_
  have m3 := H.le_ins (u := u22) (b := g3) (.cells [Value.int .i64 1, .int .i64 1].toArray 3 (0, 0)) h3
  have hm0 : mayErr 0 [1, 1] X3.dim (decide ((0 : Int) ∈ (ixRows X3).map (·.1))) (ixRows X3).length = 50 := by unfold mayErr; rw [if_pos (by omega)]
  have hDn3 : ∀ g', (⟨some ⟨g3, 0, none⟩, 2, 2⟩ : Sl).blk = some g' → ¬ D3 g' := fun g' hg' hd => by
    have : g3 = g' := by simpa [Sl.blk] using hg'
    exact hX3.base.2.2 g' hd (by rw [← this]; exact h3)
  refine spec.ix_Put (hX3.mono m3) (by omega) (hTab.mono l1) (q0 h3 1 1) hDn3 (fun _ => ?_) fun he => by rw [hm0] at he; cases he
  rw [hm0]
  have hfin := h _ ((l1.trans (hX3.base.1)).trans m3)
  have hts : Hts _ s10 [((1 : Int), (0 : Int)), (3, 1)] := Seg.else hoh.hts fun g o hg ho => m3 _ _ (hk22 g hg o ho)
  intro K28 hK28
  refine ⟨fun _ => ⟨fun _ => ⟨fun _ => ⟨fun _ => ⟨fun _ => ⟨fun _ => spec.ix_Len (hX3.mono m3) ?_, fun e => (by cases e)⟩, fun e => (by cases e)⟩, fun e => absurd rfl e⟩, fun e => absurd rfl e⟩, fun e => absurd rfl e⟩, fun e => absurd rfl e⟩
  have kt : ∀ bb : Bool, bb = true → K bb (u22.ins g3 (.cells [Value.int .i64 1, .int .i64 1].toArray 3 (0, 0))) := fun bb hb => by rw [hb]; exact hfin
  refine hK28 _ _ ⟨fun _ => ?_, fun hb => ?_⟩
  · have hn2 := hts.len
    refine ⟨fun _ => ?_, fun hne => absurd (by rw [hn2]; rfl) hne⟩
    obtain ⟨p, hp, x, hx, c0, c1, c2⟩ := hts.at (x := 0) (by omega) (by rw [hn2]; decide)
    obtain ⟨p', hp', y, hy, d0, d1, d2⟩ := hts.at (x := 1) (by omega) (by rw [hn2]; decide)
    have hpp : p' = p := by rw [hp] at hp'; exact (Option.some.inj hp').symm
    subst hpp
    have hx' : x = (1, 0) := by simpa using hx.symm
    have hy' : y = (3, 1) := by simpa using hy.symm
    subst hx'; subst hy'
    refine ⟨_, hp, ⟨by omega, by rw [hn2]; decide⟩, _, c0, _, c1, _, c2, fun _ => ⟨_, hp, ⟨by omega, by rw [hn2]; decide⟩, _, d0, _, d1, _, d2, kt _ ?_⟩, fun hne => absurd ⟨rfl, rfl, rfl⟩ hne⟩
    exact decide_eq_true ⟨rfl, rfl, rfl⟩
  · rw [hl3] at hb
    simp at hb

end Go.Proofs.YtljbcihbgeiacaaGreat

/- VcOpen2 -/
namespace Go.Proofs.YtljbcihbgeiacaaGreat
open Go.ChangeShapes Go.WideShapes Go.ChangeAt Go.RowKit

theorem cellsOp : Tryz.prog.cellsOf 45 = 7 := by kernel_rfl
theorem cellsHow : Tryz.prog.cellsOf 25 = 3 := by kernel_rfl
theorem bytesOp : Tryz.prog.bytesOf 45 = 88 := by kernel_rfl

section
variable {H' : Type} {enc : TypeId × Value → H'}

/-- A way of building, opened. -/
theorem open_how {W : World} {cs : Array Value} {fuel : Nat} {x : DataW H' × List MemPlace} (h : DataW.trod enc Tryz.prog W 0 (fun _ => true) true fuel 25 cs.toList = some x) :
    ∃ a b s : Int, U64 s ∧ cs = #[.int .i64 a, .int .i64 b, .int .u64 s] := by
  obtain ⟨y0, y1, y2, k, _, hlen, u0, u1, u2⟩ := Deep.trod_struct3 Tryz.underlying25 h
  rw [cellsHow] at hlen
  obtain ⟨cl⟩ := cs
  change cl.length = 3 at hlen
  match cl, hlen with
  | [v0, v1, v2], _ =>
    simp only [cells3o, cells24o, List.drop, List.take] at u0 u1 u2
    obtain ⟨m0, e0, _, _⟩ := DataW.trod_int Tryz.underlying3 u0
    obtain ⟨m1, e1, _, _⟩ := DataW.trod_int Tryz.underlying3 u1
    obtain ⟨m2, e2, _, w2⟩ := DataW.trod_int Tryz.underlying23 u2
    simp only [List.cons.injEq, and_true] at e0 e1 e2
    subst e0 e1 e2
    refine ⟨m0, m1, m2, ?_, rfl⟩
    simp only [Lit.wf, Bool.and_eq_true, decide_eq_true_eq] at w2
    have g1 : IntKind.min .u64 = 0 := by decide
    have g2 : IntKind.max .u64 = 18446744073709551615 := by decide
    rw [g1, g2] at w2
    exact ⟨w2.1, by omega⟩

instance : Inhabited Cll := ⟨⟨0, 0, 0, 0, 0, ⟨none, 0, 0⟩, [], ⟨none, 0, 0⟩, []⟩⟩

end

end Go.Proofs.YtljbcihbgeiacaaGreat

/- VcLawT3 -/
namespace Go.Proofs.YtljbcihbgeiacaaGreat

/-- A table that lies apart from blocks D. -/
structure TabSt (ub u : H) (D : Nat → Prop) (n : Nat) (d : Int) (L : List Rw) : Prop where
  ex : ∃ uT, uT.le u ∧ (∀ c, D c → uT c = none) ∧ TabAt uT n d L ∧ ub.le uT ∧ ub n = none

theorem TabSt.le {ub u : H} {D : Nat → Prop} {n : Nat} {d : Int} {L : List Rw} (h : TabSt ub u D n d L) : ub.le u := by
  obtain ⟨uT, h1, _, _, h4, _⟩ := h.ex
  exact h4.trans h1

theorem TabSt.mono {ub u u' : H} {D : Nat → Prop} {n : Nat} {d : Int} {L : List Rw} (h : TabSt ub u D n d L) (hu : u.le u') : TabSt ub u' D n d L := by
  obtain ⟨uT, h1, h2, h3, h4, h5⟩ := h.ex
  exact ⟨uT, h1.trans hu, h2, h3, h4, h5⟩

theorem TabSt.rows {ub u : H} {D : Nat → Prop} {n : Nat} {d : Int} {L : List Rw} (h : TabSt ub u D n d L) : ∃ s : Sl, u n = some (.cells #[.int .i64 d, .slice s.a s.n s.c] 91 (0, 0)) ∧ Rws u s L := by
  obtain ⟨uT, h1, _, h3, _, _⟩ := h.ex
  obtain ⟨s, v, hn, hv, _, hR⟩ := h3.ex
  exact ⟨s, h1 _ _ hn, hR.mono (hv.trans h1)⟩

theorem TabSt.rise {ub u : H} {D : Nat → Prop} {n : Nat} {d : Int} {L : List Rw} (h : TabSt ub u D n d L) : (L.map Rw.pr).Pairwise fun a b => a.1 < b.1 := by
  obtain ⟨uT, _, _, h3, _, _⟩ := h.ex
  exact h3.rise

theorem TabSt.nodup {ub u : H} {D : Nat → Prop} {n : Nat} {d : Int} {L : List Rw} (h : TabSt ub u D n d L) : (L.map (·.id)).Nodup := by
  obtain ⟨uT, _, _, h3, _, _⟩ := h.ex
  rw [List.nodup_iff_pairwise_ne, List.pairwise_map]
  exact h3.srt.imp fun h => Int.ne_of_lt h

/-- The tree turned: the table lies apart from it still. -/
theorem TabSt.turn {ub u u' : H} {D D' : Nat → Prop} {n : Nat} {d : Int} {L : List Rw} (h : TabSt ub u D n d L) (k : IxTurn u D u' D') : TabSt ub u' D' n d L := by
  obtain ⟨uT, h1, h2, h3, h4, h5⟩ := h.ex
  obtain ⟨k1, k2⟩ := k.apart h1 h2
  exact ⟨uT, k1, k2, h3, h4, h5⟩

/-- A tree and a table of the same rows. -/
structure TSt (ub u : H) (D : Nat → Prop) (b : Nat) (X : Tr) (n : Nat) (L : List Rw) : Prop where
  ix : Ix ub u D b X
  tab : TabSt ub u D n X.dim L
  perm : (ixRows X).Perm (L.map Rw.pr)
  ok : Rok L X.dim

theorem TSt.mono {ub u u' : H} {D : Nat → Prop} {b : Nat} {X : Tr} {n : Nat} {L : List Rw} (h : TSt ub u D b X n L) (hu : u.le u') : TSt ub u' D b X n L := ⟨h.ix.mono hu, h.tab.mono hu, h.perm, h.ok⟩
theorem TSt.le {ub u : H} {D : Nat → Prop} {b : Nat} {X : Tr} {n : Nat} {L : List Rw} (h : TSt ub u D b X n L) : ub.le u := h.tab.le

theorem TSt.ids {ub u : H} {D : Nat → Prop} {b : Nat} {X : Tr} {n : Nat} {L : List Rw} (h : TSt ub u D b X n L) (id : Int) : id ∈ (ixRows X).map (·.1) ↔ id ∈ L.map (·.id) := by
  rw [ids_pr]
  exact (h.perm.map _).mem_iff

theorem TSt.len {ub u : H} {D : Nat → Prop} {b : Nat} {X : Tr} {n : Nat} {L : List Rw} (h : TSt ub u D b X n L) : (ixRows X).length = L.length := by
  have := h.perm.length_eq
  simpa using this

end Go.Proofs.YtljbcihbgeiacaaGreat

/- VcLawT4 -/
namespace Go.Proofs.YtljbcihbgeiacaaGreat

theorem TSt.known {ub u : H} {D : Nat → Prop} {b : Nat} {X : Tr} {n : Nat} {L : List Rw} (h : TSt ub u D b X n L) : ∀ c, D c → u c ≠ none := h.ix.base.2.2

end Go.Proofs.YtljbcihbgeiacaaGreat

/- VcLawT5 -/
namespace Go.Proofs.YtljbcihbgeiacaaGreat

end Go.Proofs.YtljbcihbgeiacaaGreat
