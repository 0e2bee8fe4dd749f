/- Texts of mine, joined by merge.py: VcVec, VcPart, VcIxB, VcPn0, VcReg, VcAll, VcRowF, VcDelR, VcPn1, VcPn2, VcPn3, VcPn4, VcSort2, VcStab, VcDone, VcMeans, VcBall, VcRangeG, VcRangeM, VcPerm. -/
import Derived.Test.YtbohcdjoglidhaaGreatDoorMra7
import Derived.Lib.EndianBits
import Derived.Shelf.SlSortCmp.Whole1
import Derived.OpenShut
set_option maxRecDepth 100000

/- VcVec -/
namespace Go.Proofs.YtbohcdjoglidhaaGreatDoor

def p2 (k : Nat) : Int := ((2 ^ k : Nat) : Int)
theorem p2_pos (k : Nat) : 1 ≤ p2 k := Int.natCast_pos.2 (Nat.pow_pos (by decide))
theorem p2_succ (k : Nat) : p2 (k + 1) = 2 * p2 k := by
  show ((2 ^ (k + 1) : Nat) : Int) = 2 * ((2 ^ k : Nat) : Int)
  rw [Nat.pow_succ, Int.natCast_mul]
  exact Int.mul_comm _ _
theorem p2_le {k : Nat} (h : k ≤ 63) : p2 k ≤ 9223372036854775808 := by
  have h1 : (2 ^ k : Nat) ≤ 2 ^ 63 := Nat.pow_le_pow_right (by decide) h
  have h2 : p2 k ≤ ((2 ^ 63 : Nat) : Int) := Int.ofNat_le.2 h1
  have h3 : ((2 ^ 63 : Nat) : Int) = 9223372036854775808 := by decide
  omega

theorem spec.wide_Sqrt {a b : Int} {u : H} {K : Int → H → Prop} (ha : U64 a) (hb : U64 b) (h : K (rt (wv a b)) u) : C.wide_Sqrt a b u K := by
  apply vc.wide_Sqrt
  have hw0 : 0 ≤ wv a b := by unfold wv; obtain ⟨_, _⟩ := ha; obtain ⟨_, _⟩ := hb; omega
  have hw1 : wv a b < 340282366920938463463374607431768211456 := by unfold wv; obtain ⟨_, _⟩ := ha; obtain ⟨_, _⟩ := hb; omega
  refine ⟨fun r x v => v = u ∧ ∃ (k : Nat) (c : Int), k ≤ 63 ∧ x = p2 k ∧ 0 ≤ c ∧ r = c * p2 (k + 1) ∧ r + p2 (k + 1) ≤ 18446744073709551616 ∧ r * r ≤ wv a b ∧ wv a b < (r + p2 (k + 1)) * (r + p2 (k + 1)), fun _ x _ => x.toNat,
    ⟨rfl, 63, 0, by omega, by decide, by omega, by simp, by decide, by simpa using hw0, ?_⟩, ?_⟩
  · have e : p2 (63 + 1) = 18446744073709551616 := by decide
    rw [e]
    omega
  rintro r x v ⟨rfl, k, c, hk, rfl, hc, hr, hr64, h1, h2⟩
  have hp := p2_pos k
  have hp' := p2_succ k
  have hpl := p2_le hk
  have hr0 : 0 ≤ r := by rw [hr]; exact Int.mul_nonneg hc (by omega)
  have hor : bits .or .u64 r (p2 k) = r + p2 k := by
    have e2 : (2 : Int) ^ (k + 1) = p2 (k + 1) := by simp [p2]
    have e64 : (2 : Int) ^ 64 = 18446744073709551616 := by decide
    refine bits_join .u64 64 (by decide) (fun n h0 h1 => wraps_u64 n h0 h1) (k + 1) r (p2 k) hr0 ?_ (by rw [e64]; omega) (by omega) (by rw [e2]; omega) (by rw [e64]; omega)
    rw [e2, hr]
    exact Int.mul_emod_left _ _
  rw [hor]
  have htU : U64 (r + p2 k) := ⟨by omega, by omega⟩
  refine spec.wide_Mul htU htU fun x y hx hy hxy => ⟨H.le.refl _, spec.wide_Cmp hy hb ?_⟩
  rw [hxy]
  have hfd : k ≠ 0 → Int.fdiv (p2 k) (2 ^ 1) = p2 (k - 1) := fun hk0 => by
    obtain ⟨m, rfl⟩ : ∃ m, k = m + 1 := ⟨k - 1, by omega⟩
    rw [p2_succ, Int.fdiv_eq_ediv_of_nonneg _ (by decide)]
    simp
  have hk1 : p2 k = 1 → k = 0 := fun e => by
    by_cases hk0 : k = 0
    · exact hk0
    · exfalso
      obtain ⟨m, rfl⟩ : ∃ m, k = m + 1 := ⟨k - 1, by omega⟩
      rw [p2_succ] at e
      have := p2_pos m
      omega
  have e0 : p2 0 = 1 := by decide
  have step : ∀ (r' : Int), 0 ≤ r' → r' * r' ≤ wv a b → wv a b < (r' + p2 k) * (r' + p2 k) → (∃ c', 0 ≤ c' ∧ r' = c' * p2 k) → r' + p2 k ≤ 18446744073709551616 →
      ((p2 k = 1) → K r' v) ∧ ((¬ (p2 k = 1)) → ((0 : Int) ≤ 1) ∧ ((v = v ∧ ∃ (k' : Nat) (c : Int), k' ≤ 63 ∧ Int.fdiv (p2 k) (2 ^ 1) = p2 k' ∧ 0 ≤ c ∧ r' = c * p2 (k' + 1) ∧ r' + p2 (k' + 1) ≤ 18446744073709551616 ∧ r' * r' ≤ wv a b ∧ wv a b < (r' + p2 (k' + 1)) * (r' + p2 (k' + 1))) ∧ ((Int.fdiv (p2 k) (2 ^ 1)).toNat < (p2 k).toNat))) := by
    intro r' r0 r1 r2 ⟨c', hc', hrc⟩ r3
    refine ⟨fun e => ?_, fun hne => ?_⟩
    · rw [e] at r2
      rw [rt_eq r0 r1 r2]
      exact h
    · have hk0 : k ≠ 0 := fun e => hne (by rw [e]; exact e0)
      have hkk : k - 1 + 1 = k := by omega
      have hp3 := p2_pos (k - 1)
      have hp4 := p2_succ (k - 1)
      rw [hkk] at hp4
      refine ⟨by decide, ⟨rfl, k - 1, c', by omega, hfd hk0, hc', by rw [hkk]; exact hrc, by rw [hkk]; exact r3, r1, by rw [hkk]; exact r2⟩, ?_⟩
      rw [hfd hk0]
      omega
  by_cases hle : (r + p2 k) * (r + p2 k) ≤ wv a b
  · have s := step (r + p2 k) (by omega) hle (by rw [show r + p2 k + p2 k = r + p2 (k + 1) by omega]; exact h2) ⟨2 * c + 1, by omega, by rw [hr, hp']; grind⟩ (by omega)
    refine ⟨fun _ => s, fun hx => absurd ?_ hx⟩
    split
    · omega
    · rw [if_neg (by omega)]; omega
  · have s := step r hr0 h1 (by omega) ⟨2 * c, by omega, by rw [hr, hp']; grind⟩ (by omega)
    refine ⟨fun hx => absurd hx ?_, fun _ => s⟩
    rw [if_neg (by omega), if_pos (by omega)]
    omega

theorem vcheck_reg {l : List Int} {d : Int} (hv : vok l) (hl : (l.length : Int) = d) (hd : 1 ≤ d ∧ d ≤ 64) : vcheck l d = 0 := by
  rw [← hl]
  exact ok_vcheck hv (by omega)

/-- A region that may be, without ids. -/
theorem spec.vec_CheckRegion {r : Rgn} {d : Int} {t : Sl} {u : H} {K : Int → H → Prop} (h1 : Ints u r.ls r.lo) (h2 : Ints u r.hs r.hi) (hr : RegOk r d) (ht : t.n = 0) (h : K 0 u) : C.vec_CheckRegion r.sh r.ls r.hs (hiW r.rad) (loW r.rad) t d u K := by
  refine ClT.forget (ss := [.one (.int .i64)]) ?_
  have n1 := h1.len
  have n2 := h2.len
  have hd := hr.dim
  have fin : ∀ {v : H}, u.le v → u.le v ∧ K 0 u := fun hv => ⟨hv, h⟩
  apply vc.vec_CheckRegion
  refine spec.vec_dim ?_
  rw [decide_eq_true hd]
  refine ⟨fun hx => absurd rfl hx, fun _ => ⟨fun _ _ x6 v => v = u ∧ 0 ≤ x6, fun _ _ _ _ => 0, ⟨rfl, by omega⟩, fun x4 x5 x6 v hv => ?_⟩⟩
  obtain ⟨rfl, hx6⟩ := hv
  refine ⟨fun hx => absurd hx (by omega), fun _ => ?_⟩
  intro K10 h10 K33 h33
  rcases hr.shape with ⟨e, e1, e2, e3⟩ | ⟨e, e0, v1, v2, l1, l2, hle⟩ | ⟨e, e2, v1, l1, hrad⟩
  · have z1 : r.lo.length = 0 := by rw [e1]; rfl
    have z2 : r.hi.length = 0 := by rw [e2]; rfl
    refine ⟨fun _ => ⟨⟨by omega, by omega⟩, fun _ => h33 _ _ ⟨fun _ => fin (H.le.refl _), fun hf => absurd ⟨by rw [e3]; rfl, by rw [e3]; rfl⟩ (of_decide_eq_false hf)⟩, fun hn => absurd (by rw [n1, n2, e1, e2]; rfl) hn⟩, fun hn => absurd e hn⟩
  · refine ⟨fun hx => absurd hx (by omega), fun _ => h33 _ _ ⟨fun hx => (by cases hx), fun _ => ?_⟩⟩
    intro K36 h36
    refine ⟨fun hx => absurd hx (by omega), fun _ => h36 _ _ ⟨fun hx => (by cases hx), fun _ => ⟨fun hx => absurd e hx, fun _ => ⟨fun hx => absurd ⟨by rw [e0]; rfl, by rw [e0]; rfl⟩ hx, fun _ => h10 _ _ ?_⟩⟩⟩⟩
    refine sem_build (build_two _ _) fun g hg => ?_
    generalize hu' : v.ins g _ = u'
    have hle' : v.le u' := by subst hu'; exact H.le_ins _ hg
    have c : ∀ j w, (#[Value.slice r.ls.a r.ls.n r.ls.c, Value.slice r.hs.a r.hs.n r.hs.c] : Array Value)[j]? = some w → u'.cell? ⟨g, j, none⟩ = some w := by
      intro j w hw
      subst hu'
      exact (H.cell?_of (H.ins_same _ _ _) j).trans hw
    clear hu' hg
    refine ⟨fun _ i w => w = u' ∧ 0 ≤ i ∧ i ≤ 2, fun _ i _ => (2 - i).toNat, ⟨rfl, by omega, by omega⟩, ?_⟩
    rintro _ i w ⟨rfl, i0, i1⟩
    refine ⟨fun hi => ⟨_, rfl, ⟨i0, hi⟩, ?_⟩, fun hi => ?_⟩
    · have hi : i < 2 := hi
      have hc : i = 0 ∨ i = 1 := by omega
      rcases hc with rfl | rfl
      · refine ⟨r.ls, c 0 _ rfl, spec.vec_Check (h1.mono hle') ⟨fun hne => absurd (vcheck_reg v1 l1 hd) hne, fun _ => ⟨⟨by omega, by omega⟩, ⟨rfl, by omega, by omega⟩, by dsimp only; omega⟩⟩⟩
      · refine ⟨r.hs, c 1 _ rfl, spec.vec_Check (h2.mono hle') ⟨fun hne => absurd (vcheck_reg v2 l2 hd) hne, fun _ => ⟨⟨by omega, by omega⟩, ⟨rfl, by omega, by omega⟩, by dsimp only; omega⟩⟩⟩
    · refine ⟨fun _ i w' => w' = w ∧ 0 ≤ i, fun _ i _ => ((r.ls.n : Int) - i).toNat, ⟨rfl, by omega⟩, ?_⟩
      rintro _ i w' ⟨rfl, i0⟩
      refine ⟨fun hi => ?_, fun _ => ⟨hle', h⟩⟩
      obtain ⟨p1, hp1, c1⟩ := (h1.mono hle').at i0 hi
      obtain ⟨p2, hp2, c2⟩ := (h2.mono hle').at i0 (show i < (r.hs.n : Int) by omega)
      have := hle i.toNat (by omega)
      exact ⟨p1, hp1, ⟨i0, hi⟩, _, c1, p2, hp2, ⟨i0, by omega⟩, _, c2, fun hx => by omega, fun _ => ⟨⟨by omega, by omega⟩, ⟨rfl, by omega⟩, by dsimp only; omega⟩⟩
  · refine ⟨fun hx => absurd hx (by omega), fun _ => h33 _ _ ⟨fun hx => (by cases hx), fun _ => ?_⟩⟩
    intro K36 h36
    refine ⟨fun _ => h36 _ _ ⟨fun _ => spec.vec_Check h1 ?_, fun hf => ?_⟩, fun hx => absurd e hx⟩
    · rw [vcheck_reg v1 l1 hd]
      exact fin (H.le.refl _)
    · exact absurd (by rw [n2, e2]; rfl) (of_decide_eq_false hf)

/-- A region and a vector that may be. -/
theorem spec.vec_both {r : Rgn} {t s : Sl} {q : List Int} {u : H} {K : Int → H → Prop} (h1 : Ints u r.ls r.lo) (h2 : Ints u r.hs r.hi) (hr : RegOk r q.length) (ht : t.n = 0) (hs : Ints u s q) (hq : vok q) (h : K 0 u) : C.vec_both r.sh r.ls r.hs (hiW r.rad) (loW r.rad) t s u K := by
  have hn := hs.len
  apply vc.vec_both
  rw [hn]
  refine spec.vec_CheckRegion h1 h2 hr ht ⟨fun hx => absurd rfl hx, fun _ => spec.vec_Check hs ?_⟩
  rw [vcheck_reg hq rfl hr.dim]
  exact h

/-- How near a region may be: the program's. -/
theorem spec.vec_Bound {r : Rgn} {t s : Sl} {q : List Int} {u : H} {K : Int → Int → Int → H → Prop} (h1 : Ints u r.ls r.lo) (h2 : Ints u r.hs r.hi) (hr : RegOk r q.length) (ht : t.n = 0) (hs : Ints u s q) (hq : vok q)
    (h : K (hiW (nearR r q)) (loW (nearR r q)) 0 u) : C.vec_Bound r.sh r.ls r.hs (hiW r.rad) (loW r.rad) t s u K := by
  have n1 := h1.len
  have n2 := h2.len
  have nq := hs.len
  have hd := hr.dim
  have z : U64 0 := ⟨by omega, by omega⟩
  unfold nearR at h
  apply vc.vec_Bound
  refine spec.vec_both h1 h2 hr ht hs hq ⟨fun hx => absurd rfl hx, fun _ => ?_⟩
  intro K2 hK2
  rcases hr.shape with ⟨e, _⟩ | ⟨e, _, v1, v2, l1, l2, hle⟩ | ⟨e, e2, v1, l1, hrad⟩
  · rw [if_neg (by omega), if_neg (by omega)] at h
    exact ⟨fun h => by omega, fun _ => ⟨fun h => by omega, fun _ => hK2 _ _ _ h⟩⟩
  · rw [if_pos e] at h
    refine ⟨fun _ => ?_, fun hne => absurd e hne⟩
    refine ⟨fun i x y w => w = u ∧ 0 ≤ i ∧ i ≤ s.n ∧ U64 x ∧ U64 y ∧ wv x y = boxTo r.lo r.hi q i.toNat, fun i _ _ _ => ((s.n : Int) - i).toNat, ⟨rfl, by omega, by omega, z, z, rfl⟩, ?_⟩
    rintro i x y w ⟨rfl, i0, i1, hx, hy, hw⟩
    refine ⟨fun hi => ?_, fun hi => ?_⟩
    · obtain ⟨p, hp, c0⟩ := hs.at i0 hi
      obtain ⟨p1, hp1, c1⟩ := h1.at i0 (show i < (r.ls.n : Int) by omega)
      obtain ⟨p2, hp2, c2⟩ := h2.at i0 (show i < (r.hs.n : Int) by omega)
      have k0 := hq.2 i.toNat (by omega)
      have k1 := v1.2 i.toNat (by omega)
      have k2 := v2.2 i.toNat (by omega)
      have hb := boxTo_le v1 v2 hq (by omega) (by omega) i.toNat (by omega)
      have h64 := hq.1
      have hlo := hle i.toNat (by omega)
      have eb : boxTo r.lo r.hi q (i + 1).toNat = boxTo r.lo r.hi q i.toNat + (if q.getD i.toNat 0 < r.lo.getD i.toNat 0 then sqd (r.lo.getD i.toNat 0) (q.getD i.toNat 0) else 0) + (if r.hi.getD i.toNat 0 < q.getD i.toNat 0 then sqd (q.getD i.toNat 0) (r.hi.getD i.toNat 0) else 0) := by
        rw [show (i + 1).toNat = i.toNat + 1 by omega]
        rfl
      have hbb : boxTo r.lo r.hi q i.toNat ≤ 64 * 36893488113059364872 := by
        have := Int.mul_le_mul_of_nonneg_right (show (i.toNat : Int) ≤ 64 by omega) (show (0 : Int) ≤ 36893488113059364872 by omega)
        omega
      refine ⟨p, hp, ⟨i0, hi⟩, _, c0, p1, hp1, ⟨i0, by omega⟩, _, c1, p2, hp2, ⟨i0, by omega⟩, _, c2, ?_⟩
      generalize q.getD i.toNat 0 = a at *
      generalize r.lo.getD i.toNat 0 = b at *
      generalize r.hi.getD i.toNat 0 = c at *
      have hclamp : coordOk (if c < (if b > a then b else a) then c else (if b > a then b else a)) := by
        unfold coordOk at *
        split <;> split <;> omega
      refine spec.vec_plus hx hy k0 hclamp (by omega) fun x' y' hx' hy' hw' => ⟨⟨by omega, by omega⟩, ⟨rfl, by omega, by omega, hx', hy', ?_⟩, by dsimp only; omega⟩
      rw [hw', hw, eb]
      unfold sqd
      by_cases g1 : b > a
      · rw [if_pos g1, if_pos (show a < b from g1), if_neg (show ¬ c < b by omega), if_neg (show ¬ c < a by omega)]
        have : (a - b) * (a - b) = (b - a) * (b - a) := by grind
        omega
      · rw [if_neg g1, if_neg (show ¬ a < b by omega)]
        by_cases g2 : c < a
        · rw [if_pos g2, if_pos g2]; omega
        · rw [if_neg g2, if_neg g2]
          have : (a - a) * (a - a) = 0 := by simp
          omega
    · have : i.toNat = q.length := by omega
      rw [this] at hw
      obtain ⟨g1, g2⟩ := wv_U hx hy
      rw [hw] at g1 g2
      rw [g1, g2]
      exact hK2 _ _ _ h
  · rw [if_neg (by omega), if_pos e] at h
    refine ⟨fun h => by omega, fun _ => ⟨fun _ => ?_, fun hne => absurd e hne⟩⟩
    refine spec.vec_far h1 hs v1 hq (by omega) fun x y hx hy hw => ⟨H.le.refl _, ?_⟩
    have hdk := sqTo_ok v1 hq (show r.lo.length = q.length by omega)
    refine spec.wide_Sqrt hx hy ⟨H.le.refl _, spec.wide_Sqrt (hiU hrad) (loU _) ?_⟩
    rw [wv_hl, hw]
    have s0 := rt_spec hdk.1
    have s1 := rt_lt hdk
    have t0 := rt_spec hrad.1
    have t1 := rt_lt hrad
    unfold ballTo at h
    generalize hss : rt (sqTo r.lo q r.lo.length) = S at *
    generalize htt : rt r.rad = tt at *
    intro K28 h28
    have fin : ∀ z : Int, 0 ≤ z → z < 18446744073709551616 → K (hiW (z * z)) (loW (z * z)) 0 u → C.wide_Mul z z u fun (x31 : Int) (x32 : Int) (u33 : H) => K2 x31 x32 u33 := fun z z0 z1 hz => spec.wide_Mul ⟨z0, z1⟩ ⟨z0, z1⟩ fun x y hx hy hxy => by
      obtain ⟨g1, g2⟩ := wv_U hx hy
      rw [hxy] at g1 g2
      rw [g1, g2]
      exact hK2 _ _ _ hz
    have go : ∀ T : Int, 0 ≤ T → (K (hiW (if T < S then (S - T) * (S - T) else 0)) (loW (if T < S then (S - T) * (S - T) else 0)) 0 u) → K28 T u := fun T hT hKT => by
      refine h28 _ _ ⟨fun hlt => ?_, fun hge => ?_⟩
      · rw [if_pos hlt] at hKT
        have e1 : IntKind.wrap .u64 (S - T) = S - T := IntWalk.u64_in _ (by omega)
        rw [e1]
        exact fin _ (by omega) (by omega) hKT
      · rw [if_neg hge] at hKT
        exact hK2 _ _ _ hKT
    refine ⟨fun hlt => ?_, fun hge => ⟨H.le.refl _, ?_⟩⟩
    · refine spec.wide_Mul ⟨t0.1, by omega⟩ ⟨t0.1, by omega⟩ fun x' y' hx' hy' hxy => ⟨H.le.refl _, ?_⟩
      obtain ⟨g1, g2⟩ := wv_U hx' hy'
      rw [hxy] at g1 g2
      refine ⟨fun hne => ?_, fun he => ?_⟩
      · have hne' : ¬ tt * tt = r.rad := fun ee => hne (by rw [g1, g2, ee]; exact ⟨rfl, rfl⟩)
        rw [if_neg hne'] at h
        have e1 : IntKind.wrap .u64 (tt + 1) = tt + 1 := IntWalk.u64_in _ (by omega)
        rw [e1]
        exact go _ (by omega) h
      · have he' : tt * tt = r.rad := hl_inj (by rw [← g1]; exact he.1) (by rw [← g2]; exact he.2)
        rw [if_pos he'] at h
        exact go _ t0.1 h
    · refine go _ t0.1 ?_
      rw [if_neg hge]
      rw [if_neg (by split <;> omega)] at h
      exact h

end Go.Proofs.YtbohcdjoglidhaaGreatDoor

/- VcPart -/
namespace Go.Proofs.YtbohcdjoglidhaaGreatDoor

theorem H.le.cell {v u : H} (h : v.le u) {a : Addr} {x : Value} (hc : v.cell? a = some x) : u.cell? a = some x := by
  unfold H.cell? at hc ⊢
  split at hc
  · rename_i c t f hx
    rw [h _ _ hx]
    exact hc
  · cases hc

section
variable {α β : Type} [Inhabited α] [Inhabited β] {lt : α → α → Bool} {lt' : β → β → Bool} {f : α → β}

theorem getD_map' (hd : f default = default) (l : List α) (i : Nat) : (l.map f).getD i default = f (l.getD i default) := by
  rw [List.getD_eq_getElem?_getD, List.getD_eq_getElem?_getD, List.getElem?_map]
  cases l[i]? with
  | none => exact hd.symm
  | some x => rfl

omit [Inhabited α] [Inhabited β] in
theorem swapL_map (l : List α) (i j : Nat) : (swapL l i j).map f = swapL (l.map f) i j := by
  unfold swapL
  rw [List.getElem?_map, List.getElem?_map]
  cases l[i]? <;> cases l[j]? <;> simp [List.map_set]

theorem upF_map (hd : f default = default) (hl : ∀ a b, lt' (f a) (f b) = lt a b) : ∀ (j : Nat) (l : List α), (upF lt l j).map f = upF lt' (l.map f) j := by
  intro j
  induction j using Nat.strongRecOn with
  | ind j ih =>
    intro l
    unfold upF
    by_cases h : j = 0
    · rw [dif_pos h, dif_pos h]
    · rw [dif_neg h, dif_neg h, getD_map' hd, getD_map' hd, hl]
      split
      · rw [ih (pa j) (by unfold pa; omega), swapL_map]
      · rfl

theorem kidF_map (hd : f default = default) (hl : ∀ a b, lt' (f a) (f b) = lt a b) (n : Nat) (l : List α) (i : Nat) : kidF lt' n (l.map f) i = kidF lt n l i := by
  unfold kidF
  rw [getD_map' hd, getD_map' hd, hl]

theorem downH_map (hd : f default = default) (hl : ∀ a b, lt' (f a) (f b) = lt a b) (n : Nat) : ∀ (m : Nat) (i : Nat) (l : List α), n - i ≤ m → (downH lt n l i).map f = downH lt' n (l.map f) i := by
  intro m
  induction m with
  | zero =>
    intro i l h
    unfold downH
    rw [dif_neg (by omega), dif_neg (by omega)]
  | succ m ih =>
    intro i l h
    unfold downH
    by_cases hc : 2 * i + 1 < n
    · rw [dif_pos hc, dif_pos hc, kidF_map hd hl, getD_map' hd, getD_map' hd, hl]
      split
      · obtain ⟨_, _, _, hk⟩ := kidF_ok (lt := lt) (l := l) hc
        rw [ih _ _ (by omega), swapL_map]
      · rfl
    · rw [dif_neg hc, dif_neg hc]

theorem pushF_map (hd : f default = default) (hl : ∀ a b, lt' (f a) (f b) = lt a b) (l : List α) (y : α) : (pushF lt l y).map f = pushF lt' (l.map f) (f y) := by
  unfold pushF
  rw [upF_map hd hl, List.map_append, List.length_map]
  rfl

theorem popF_map (hd : f default = default) (hl : ∀ a b, lt' (f a) (f b) = lt a b) (l : List α) : (popF lt l).map f = popF lt' (l.map f) := by
  unfold popF
  rw [List.map_dropLast, downH_map hd hl _ _ _ _ (Nat.le_refl _), swapL_map, List.length_map]
end

/-! ### parts in memory -/

/-- A part at an address, its parts too. -/
inductive PartAt (u : H) : Nat → Pt → Prop where
  | mk {n : Nat} {p : Pt} (ls hs is rs ks : Sl) (rows : List Rw) (ps : List Nat)
      (cell : u n = some (.cells #[.int .i64 p.sh, .slice ls.a ls.n ls.c, .slice hs.a hs.n hs.c, .int .u64 (hiW p.rad), .int .u64 (loW p.rad), .slice is.a is.n is.c, .slice rs.a rs.n rs.c, .slice ks.a ks.n ks.c] 132 (0, 0)))
      (isn : is.n = 0) (lo : Ints u ls p.lo) (hi : Ints u hs p.hi) (at' : Rws u rs rows) (pr : rows.map Rw.pr = p.rows)
      (kids : Seg u ks 1 (ps.map fun n => .pointer (some ⟨n, 0, none⟩))) (len : ps.length = p.kids.length) (each : ∀ (i : Nat) m k, ps[i]? = some m → p.kids[i]? = some k → PartAt u m k) : PartAt u n p

theorem PartAt.mono {u u' : H} {n : Nat} {p : Pt} (h : PartAt u n p) (hu : u.le u') : PartAt u' n p := by
  induction h with
  | mk ls hs is rs ks rows ps cell isn lo hi at' pr kids len each ih =>
    exact .mk ls hs is rs ks rows ps (hu _ _ cell) isn (lo.mono hu) (hi.mono hu) (at'.mono hu) pr (kids.mono hu) len ih

/-- The queue of parts: where they lie. -/
structure PQ (v u : H) (n : Nat) (l : List Op1) : Prop where
  ex : ∃ L : List QE, QueSt v n u L ∧ L.map (·.2) = l ∧ ∀ e ∈ L, ∃ m, e.1 = ⟨m, 0, none⟩ ∧ PartAt v m e.2.2

/-- Pushing a part. -/
theorem spec.push_part {v u : H} {n m : Nat} {l : List Op1} {p : Pt} {b : Int} {K : H → Prop} (h : PQ v u n l) (hl : l.length < 10000000) (hp : PartAt v m p) (hK : ∀ u', PQ v u' n (pushF blt l (b, p)) → K u') :
    C.heap_Push (queV n) (queI ((⟨m, 0, none⟩ : Addr), (b, p))) u K := by
  obtain ⟨L, hQ, hL, hall⟩ := h.ex
  have hlen : L.length = l.length := by rw [← hL, List.length_map]
  refine spec.heap_PushF (queHeap v n) (y := ((⟨m, 0, none⟩ : Addr), ((b, p) : Op1))) (fun hk => que_push hQ (by omega) hk) fun u' hs => hK u' ⟨pushF qlt L ((⟨m, 0, none⟩ : Addr), ((b, p) : Op1)), hs, ?_, fun e he => ?_⟩
  · have e := pushF_map (α := QE) (β := Op1) (lt := qlt) (lt' := blt) (f := fun e : QE => e.2) rfl (fun _ _ => rfl) L ((⟨m, 0, none⟩ : Addr), ((b, p) : Op1))
    rw [hL] at e
    exact e
  · have hperm := upF_perm (lt := qlt) L.length (L ++ [((⟨m, 0, none⟩ : Addr), ((b, p) : Op1))]) (by simp)
    rcases List.mem_append.1 (hperm.mem_iff.1 he) with h1 | h1
    · exact hall e h1
    · have := List.mem_singleton.1 h1
      subst this
      exact ⟨m, rfl, hp⟩

/-- The closure that adds a part. -/
theorem spec.flat_Walk_1 {v u : H} {n m n0 : Nat} {s : Sl} {q : List Int} {l : List Op1} {p : Pt} {K : H → Prop} (h : PQ v u n l) (hv : v.le u) (hl : l.length < 10000000) (hp : PartAt v m p) (hok : RegOk (p.rgn []) q.length) (hq : vok q)
    (hn0 : u.cell? ⟨n0, 0, none⟩ = some (.slice s.a s.n s.c)) (hs : Ints u s q) (hK : ∀ u', PQ v u' n (addW q l p) → K u') : C.flat_Walk_1 (some ⟨m, 0, none⟩) ⟨n0, 0, none⟩ ⟨n, 0, none⟩ u K := by
  cases hp with
  | mk ls hs' is rs ks rows ps cell isn lo hi at' pr kids len each =>
  have hc := hv _ _ cell
  have hreg : RegOk (⟨p.sh, ls, hs', p.rad, is, p.lo, p.hi, []⟩ : Rgn) q.length := ⟨hok.dim, hok.ids, hok.id, hok.shape⟩
  apply vc.flat_Walk_1
  have push : C.heap_Push (queV n) (queI ((⟨m, 0, none⟩ : Addr), (nearR (p.rgn []) q, p))) u K := spec.push_part h hl (.mk ls hs' is rs ks rows ps cell isn lo hi at' pr kids len each) fun u' hu' => hK u' hu'
  have hnear : nearR (⟨p.sh, ls, hs', p.rad, is, p.lo, p.hi, []⟩ : Rgn) q = nearR (p.rgn []) q := rfl
  refine ⟨_, rfl, _, H.cell?_of hc 0, ls, H.cell?_of hc 1, hs', H.cell?_of hc 2, _, H.cell?_of hc 3, _, H.cell?_of hc 4, is, H.cell?_of hc 5, s, hn0, ?_, H.le.refl u, ?_⟩
  · exact spec.vec_Bound (r := ⟨p.sh, ls, hs', p.rad, is, p.lo, p.hi, []⟩) (lo.mono hv) (hi.mono hv) hreg isn hs hq ⟨H.le.refl u, push⟩
  · exact spec.vec_Bound (r := ⟨p.sh, ls, hs', p.rad, is, p.lo, p.hi, []⟩) (lo.mono hv) (hi.mono hv) hreg isn hs hq push

end Go.Proofs.YtbohcdjoglidhaaGreatDoor

/- VcIxB -/
namespace Go.Proofs.YtbohcdjoglidhaaGreatDoor

def H0 : H := fun _ => none
theorem H0_le (u : H) : H0.le u := fun _ _ h => by cases h

theorem Own.f {u : H} {e k : Nat} {s : Sl} {xs : List Value} (h : Own u e k s xs) : OwnF H0 u e k s xs := ⟨h, H0_le u, fun _ _ => rfl⟩

/-- What is known but for a slice's block. -/
def H.sans (u : H) (s : Sl) : H := fun c => open Classical in if s.blk = some c then none else u c
theorem sans_at {u : H} {s : Sl} {c : Nat} (h : s.blk ≠ some c) : H.sans u s c = u c := if_neg h
theorem sans_le (u : H) (s : Sl) : (H.sans u s).le u := fun c o h => by
  unfold H.sans at h
  split at h
  · cases h
  · exact h
theorem sans_of {u : H} {s : Sl} {c : Nat} {o : Obj} (h : H.sans u s c = some o) : u c = some o ∧ s.blk ≠ some c := by
  unfold H.sans at h
  split at h
  · cases h
  · rename_i e; exact ⟨h, e⟩

section
variable {Tg Tr : Type}

/-- What lies in memory stays where its blocks do. -/
structure KeepG (A : (Nat → Option Tg) → H → Nat → Tr → Prop) : Prop where
  keep : ∀ {fp fp' : Nat → Option Tg} {u u' : H} {b : Nat} {T : Tr}, A fp u b T → (∀ c, fp c ≠ none → fp' c = fp c) → (∀ c o, u c = some o → fp c ≠ none → u' c = some o) → A fp' u' b T

/-- In memory, all of its blocks made behind u0. -/
structure InG (A : (Nat → Option Tg) → H → Nat → Tr → Prop) (u0 u : H) (fp : Nat → Option Tg) (b : Nat) (T : Tr) : Prop where
  tr : A fp u b T
  le : u0.le u
  out : ∀ c, fp c ≠ none → u0 c = none
  known : ∀ c, fp c ≠ none → u c ≠ none

/-- It has turned: what is not its own is as it was. -/
structure TurnG (u : H) (fp : Nat → Option Tg) (u' : H) (fp' : Nat → Option Tg) : Prop where
  keep : ∀ c o, u c = some o → fp c = none → u' c = some o
  grow : ∀ c, fp' c ≠ none → fp c ≠ none ∨ u c = none

variable {A : (Nat → Option Tg) → H → Nat → Tr → Prop}

omit A in
theorem TurnG.mono {u u' : H} {fp : Nat → Option Tg} (h : u.le u') : TurnG u fp u' fp := ⟨fun c o hc _ => h c o hc, fun _ h => .inl h⟩

omit A in
theorem TurnG.off {u u' : H} {fp fp' : Nat → Option Tg} (h : TurnG u fp u' fp') {c : Nat} {o : Obj} (hc : u c = some o) (hf : fp c = none) : fp' c = none := by
  cases e : fp' c with
  | none => rfl
  | some t =>
    rcases h.grow c (by rw [e]; simp) with h1 | h1
    · exact absurd hf h1
    · rw [hc] at h1; cases h1

omit A in
theorem TurnG.trans {u u1 u2 : H} {fp fp1 fp2 : Nat → Option Tg} (h : TurnG u fp u1 fp1) (k : TurnG u1 fp1 u2 fp2) : TurnG u fp u2 fp2 where
  keep c o hc hf := k.keep c o (h.keep c o hc hf) (h.off hc hf)
  grow c hc := by
    rcases k.grow c hc with h1 | h1
    · exact h.grow c h1
    · cases e : fp c with
      | some x => exact .inl (by simp)
      | none =>
        cases e2 : u c with
        | none => exact .inr rfl
        | some o => rw [h.keep c o e2 e] at h1; cases h1

omit A in
/-- Blocks that were unknown at first come to be its own. -/
theorem TurnG.tag {u u' : H} {fp fp' fp2 : Nat → Option Tg} (h : TurnG u fp u' fp') (k : ∀ c, fp2 c = fp' c ∨ fp c ≠ none ∨ u c = none) : TurnG u fp u' fp2 where
  keep := h.keep
  grow c hc := by
    rcases k c with h1 | h1
    · rw [h1] at hc; exact h.grow c hc
    · exact h1

theorem InG.same (hk : KeepG A) {u0 u u' : H} {fp : Nat → Option Tg} {b : Nat} {T : Tr} (h : InG A u0 u fp b T) (hu : ∀ c o, u c = some o → fp c ≠ none → u' c = some o) (hle : u0.le u') : InG A u0 u' fp b T :=
  ⟨hk.keep h.tr (fun _ _ => rfl) hu, hle, h.out, fun c hc => by
    obtain ⟨o, ho⟩ := Option.ne_none_iff_exists'.1 (h.known c hc)
    rw [hu c o ho hc]; simp⟩

theorem InG.mono (hk : KeepG A) {u0 u u' : H} {fp : Nat → Option Tg} {b : Nat} {T : Tr} (h : InG A u0 u fp b T) (hu : u.le u') : InG A u0 u' fp b T := h.same hk (fun c o hc _ => hu c o hc) (h.le.trans hu)

theorem InG.fresh {u0 u : H} {fp : Nat → Option Tg} {b : Nat} {T : Tr} (h : InG A u0 u fp b T) {c : Nat} (hc : u c = none) : fp c = none := by
  cases e : fp c with
  | none => rfl
  | some t => exact absurd hc (h.known c (by rw [e]; simp))

/-- Blocks that are nobody's yet come to be its own. -/
theorem InG.tag (hk : KeepG A) {u0 u : H} {fp : Nat → Option Tg} {b : Nat} {T : Tr} (h : InG A u0 u fp b T) (S : Nat → Option Tg) (hs : ∀ c, S c ≠ none → fp c = none ∧ u0 c = none ∧ u c ≠ none) :
    ∃ fp', InG A u0 u fp' b T ∧ (∀ c t, S c = some t → fp' c = some t) ∧ (∀ c, S c = none → fp' c = fp c) := by
  let fp' : Nat → Option Tg := fun c => match S c with | some t => some t | none => fp c
  have e1 : ∀ c t, S c = some t → fp' c = some t := fun c t hc => by simp only [fp', hc]
  have e2 : ∀ c, S c = none → fp' c = fp c := fun c hc => by simp only [fp', hc]
  have e3 : ∀ c, fp c ≠ none → fp' c = fp c := fun c hc => by
    cases e : S c with
    | none => exact e2 c e
    | some t => exact absurd (hs c (by rw [e]; simp)).1 hc
  refine ⟨fp', ⟨hk.keep h.tr e3 fun _ _ ho _ => ho, h.le, fun c hc => ?_, fun c hc => ?_⟩, e1, e2⟩
  · cases e : S c with
    | none => rw [e2 c e] at hc; exact h.out c hc
    | some t => exact (hs c (by rw [e]; simp)).2.1
  · cases e : S c with
    | none => rw [e2 c e] at hc; exact h.known c hc
    | some t => exact (hs c (by rw [e]; simp)).2.2

/-- A slice's block as blocks of a kind. -/
def Sl.tags (s : Sl) (t : Tg) : Nat → Option Tg := fun c => if s.blk = some c then some t else none

omit A in
theorem Sl.tags_at {s : Sl} {t : Tg} {c : Nat} (h : s.blk = some c) : s.tags t c = some t := if_pos h
omit A in
theorem Sl.tags_not {s : Sl} {t : Tg} {c : Nat} (h : s.blk ≠ some c) : s.tags t c = none := if_neg h
omit A in
theorem Sl.tags_ne {s : Sl} {t : Tg} {c : Nat} (h : s.tags t c ≠ none) : s.blk = some c := by
  by_cases e : s.blk = some c
  · exact e
  · exact absurd (Sl.tags_not e) h

/-- An index in memory: D: the blocks that are its own, all made behind u0. -/
structure IxG (A : (Nat → Option Tg) → H → Nat → Tr → Prop) (Ok : Tr → Prop) (u0 u : H) (D : Nat → Prop) (b : Nat) (X : Tr) : Prop where
  ex : ∃ fp, (∀ c, D c ↔ fp c ≠ none) ∧ InG A u0 u fp b X ∧ Ok X

end

structure IxTurn (u : H) (D : Nat → Prop) (u' : H) (D' : Nat → Prop) : Prop where
  keep : ∀ c o, u c = some o → ¬ D c → u' c = some o
  grow : ∀ c, D' c → D c ∨ u c = none

theorem IxTurn.mono {u u' : H} {D : Nat → Prop} (h : u.le u') : IxTurn u D u' D := ⟨fun c o hc _ => h c o hc, fun _ h => .inl h⟩

theorem IxTurn.trans {u u1 u2 : H} {D D1 D2 : Nat → Prop} (h : IxTurn u D u1 D1) (k : IxTurn u1 D1 u2 D2) : IxTurn u D u2 D2 where
  keep c o hc hf := k.keep c o (h.keep c o hc hf) fun hd => by
    rcases h.grow c hd with h1 | h1
    · exact hf h1
    · rw [hc] at h1; cases h1
  grow c hc := by
    rcases k.grow c hc with h1 | h1
    · exact h.grow c h1
    · by_cases e : D c
      · exact .inl e
      · right
        cases e2 : u c with
        | none => rfl
        | some o => rw [h.keep c o e2 e] at h1; cases h1

/-- What is apart from an index stays. -/
theorem IxTurn.apart {u u' v : H} {D D' : Nat → Prop} (h : IxTurn u D u' D') (hv : v.le u) (hd : ∀ c, D c → v c = none) : v.le u' ∧ ∀ c, D' c → v c = none := by
  refine ⟨fun c o hc => h.keep c o (hv c o hc) fun e => ?_, fun c hc => ?_⟩
  · have := hd c e; rw [hc] at this; cases this
  · rcases h.grow c hc with h1 | h1
    · exact hd c h1
    · exact hv.none h1

section
variable {Tg Tr : Type} {A : (Nat → Option Tg) → H → Nat → Tr → Prop} {Ok : Tr → Prop}

omit A Ok in
theorem turn_ixg {u u' : H} {fp fp' : Nat → Option Tg} {D : Nat → Prop} (hD : ∀ c, D c ↔ fp c ≠ none) (h : TurnG u fp u' fp') : IxTurn u D u' (fun c => fp' c ≠ none) where
  keep c o hc hf := h.keep c o hc (by
    cases e : fp c with
    | none => rfl
    | some t => exact absurd ((hD c).2 (by rw [e]; simp)) hf)
  grow c hc := (h.grow c hc).imp (hD c).2 fun h => h

theorem IxG.base {u0 u : H} {D : Nat → Prop} {b : Nat} {X : Tr} (h : IxG A Ok u0 u D b X) : u0.le u ∧ (∀ c, D c → u0 c = none) ∧ ∀ c, D c → u c ≠ none := by
  obtain ⟨fp, h1, h2, _⟩ := h.ex
  exact ⟨h2.le, fun c hc => h2.out c ((h1 c).1 hc), fun c hc => h2.known c ((h1 c).1 hc)⟩

/-- An index is as it was where its own blocks are. -/
theorem IxG.same (hk : KeepG A) {u0 u u' : H} {D : Nat → Prop} {b : Nat} {X : Tr} (h : IxG A Ok u0 u D b X) (hu : ∀ c o, u c = some o → D c → u' c = some o) (hle : u0.le u') : IxG A Ok u0 u' D b X := by
  obtain ⟨fp, h1, h2, h3⟩ := h.ex
  exact ⟨fp, h1, h2.same hk (fun c o hc hf => hu c o hc ((h1 c).2 hf)) hle, h3⟩

theorem IxG.mono (hk : KeepG A) {u0 u u' : H} {D : Nat → Prop} {b : Nat} {X : Tr} (h : IxG A Ok u0 u D b X) (hu : u.le u') : IxG A Ok u0 u' D b X := h.same hk (fun c o hc _ => hu c o hc) (h.base.1.trans hu)

theorem IxG.rebase {u0 u v : H} {D : Nat → Prop} {b : Nat} {X : Tr} (h : IxG A Ok u0 u D b X) (hv : v.le u0) : IxG A Ok v u D b X := by
  obtain ⟨fp, h1, h2, h3⟩ := h.ex
  exact ⟨fp, h1, ⟨h2.tr, hv.trans h2.le, fun c hc => by
    cases hx : v c with
    | none => rfl
    | some o => have := hv _ _ hx; rw [h2.out c hc] at this; exact (nomatch this), h2.known⟩, h3⟩

end

end Go.Proofs.YtbohcdjoglidhaaGreatDoor

/- VcPn0 -/
namespace Go.Proofs.YtbohcdjoglidhaaGreatDoor

/-- A part but for its kids: its block, its region, its rows; with the slices that hold them. -/
structure PH where
  b : Nat
  sh : Int
  sl : Sl
  sg : Sl
  lo : List Int
  hi : List Int
  rad : Int
  sr : Sl
  rows : List Rw
  sk : Sl

/-- The blocks that are a part's own. -/
def PH.blks (h : PH) : List Nat := h.b :: (h.sl.blk.toList ++ h.sg.blk.toList ++ h.sr.blk.toList ++ h.sk.blk.toList)

inductive PN where
  | mk (h : PH) (kids : List PN)

namespace PN
def h : PN → PH | .mk h _ => h
def kids : PN → List PN | .mk _ k => k
def b (n : PN) : Nat := n.h.b

mutual
def pt : PN → Pt
  | .mk h kids => .mk h.sh h.lo h.hi h.rad (h.rows.map Rw.pr) (ptL kids)
def ptL : List PN → List Pt
  | [] => []
  | n :: ns => n.pt :: ptL ns
end

mutual
def heads : PN → List (PH × List Nat)
  | .mk h kids => (h, kids.map PN.b) :: headsL kids
def headsL : List PN → List (PH × List Nat)
  | [] => []
  | n :: ns => n.heads ++ headsL ns
end

theorem ptL_eq : ∀ ns : List PN, ptL ns = ns.map pt
  | [] => rfl
  | n :: ns => by rw [ptL, ptL_eq ns, List.map_cons]
theorem headsL_eq : ∀ ns : List PN, headsL ns = ns.flatMap heads
  | [] => rfl
  | n :: ns => by rw [headsL, headsL_eq ns, List.flatMap_cons]
theorem heads_eq (n : PN) : n.heads = (n.h, n.kids.map b) :: n.kids.flatMap heads := by
  cases n
  rw [heads, headsL_eq]
  rfl
theorem pt_eq (n : PN) : n.pt = .mk n.h.sh n.h.lo n.h.hi n.h.rad (n.h.rows.map Rw.pr) (n.kids.map pt) := by
  cases n
  rw [pt, ptL_eq]
  rfl
theorem heads_pos (n : PN) : 0 < n.heads.length := by rw [heads_eq]; simp

/-- By the kids. -/
theorem ind {P : PN → Prop} (h : ∀ n, (∀ k ∈ n.kids, P k) → P n) : ∀ n, P n := by
  intro n
  exact PN.rec (motive_1 := P) (motive_2 := fun ns => ∀ k ∈ ns, P k) (fun _ _ ih => h _ ih) (fun k hk => (by cases hk)) (fun n ns h1 h2 k hk => by
    rcases List.mem_cons.1 hk with rfl | hk
    · exact h1
    · exact h2 k hk) n

theorem pt_all (n : PN) : n.pt.all = n.heads.flatMap fun x => x.1.rows.map Rw.pr := by
  induction n using ind with
  | h n ih =>
    rw [pt_eq, heads_eq, List.flatMap_cons, Pt.all]
    congr 1
    rw [allL_flat, List.flatMap_map, List.flatMap_assoc]
    rw [List.flatMap_def, List.flatMap_def]
    exact congrArg List.flatten (List.map_congr_left fun k hk => ih k hk)

theorem pt_size (n : PN) : n.pt.size = n.heads.length := by
  induction n using ind with
  | h n ih =>
    rw [pt_eq, heads_eq, List.length_cons, Pt.size, Nat.add_comm]
    congr 1
    obtain ⟨ks, hks⟩ : ∃ ks, ks = n.kids := ⟨_, rfl⟩
    rw [← hks] at ih ⊢
    clear hks
    induction ks with
    | nil => rfl
    | cons k ks ihk =>
      rw [List.map_cons, Pt.sizeL, List.flatMap_cons, List.length_append, ih k (List.mem_cons_self ..), ihk fun j hj => ih j (List.mem_cons_of_mem _ hj)]

/-- Its own blocks. -/
def own (n : PN) : List Nat := n.heads.flatMap fun x => x.1.blks
theorem own_eq (n : PN) : n.own = n.h.blks ++ n.kids.flatMap own := by
  unfold own
  rw [heads_eq, List.flatMap_cons, List.flatMap_assoc]
end PN

def partC (h : PH) : List Value := [.int .i64 h.sh, .slice h.sl.a h.sl.n h.sl.c, .slice h.sg.a h.sg.n h.sg.c, .int .u64 (hiW h.rad), .int .u64 (loW h.rad), .slice none 0 0, .slice h.sr.a h.sr.n h.sr.c, .slice h.sk.a h.sk.n h.sk.c]

/-- One part in memory. -/
structure PhAt (u : H) (x : PH × List Nat) : Prop where
  cell : u x.1.b = some (.cells (partC x.1).toArray 132 (0, 0))
  lo : Own u 3 1 x.1.sl (x.1.lo.flatMap encI)
  hi : Own u 3 1 x.1.sg (x.1.hi.flatMap encI)
  rws : Own u 24 2 x.1.sr (x.1.rows.flatMap encR)
  vec : ∀ r ∈ x.1.rows, Ints u r.s r.v
  kid : Seg u x.1.sk 1 (x.2.map fun n => .pointer (some ⟨n, 0, none⟩))

theorem PhAt.keep {u u' : H} {x : PH × List Nat} (h : PhAt u x) (hu : ∀ c o, c ∈ x.1.blks → u c = some o → u' c = some o) (hv : ∀ r ∈ x.1.rows, Ints u' r.s r.v) : PhAt u' x where
  cell := hu _ _ (List.mem_cons_self ..) h.cell
  lo := h.lo.le fun c o hc ho => hu c o (by simp [PH.blks, hc]) ho
  hi := h.hi.le fun c o hc ho => hu c o (by simp [PH.blks, hc]) ho
  rws := h.rws.le fun c o hc ho => hu c o (by simp [PH.blks, hc]) ho
  vec := hv
  kid := Seg.else h.kid fun c o hc ho => hu c o (by simp [PH.blks, hc]) ho

/-- A tree of parts in memory. -/
structure PnAt (u : H) (n : PN) : Prop where
  one : ∀ x ∈ n.heads, PhAt u x
  nodup : n.own.Nodup

theorem PnAt.keep {u u' : H} {n : PN} (h : PnAt u n) (hu : ∀ c o, c ∈ n.own → u c = some o → u' c = some o) (hv : ∀ x ∈ n.heads, ∀ r ∈ x.1.rows, Ints u' r.s r.v) : PnAt u' n :=
  ⟨fun x hx => (h.one x hx).keep (fun c o hc ho => hu c o (List.mem_flatMap.2 ⟨x, hx, hc⟩) ho) (hv x hx), h.nodup⟩

theorem PnAt.mono {u u' : H} {n : PN} (h : PnAt u n) (hu : u.le u') : PnAt u' n := h.keep (fun c o _ ho => hu c o ho) fun x hx r hr => ((h.one x hx).vec r hr).mono hu

theorem PnAt.part {u : H} {n : PN} (h : ∀ x ∈ n.heads, PhAt u x) : PartAt u n.b n.pt := by
  induction n using PN.ind with
  | h n ih =>
    have h0 := h (n.h, n.kids.map PN.b) (by rw [PN.heads_eq]; exact List.mem_cons_self ..)
    rw [PN.pt_eq]
    refine .mk n.h.sl n.h.sg ⟨none, 0, 0⟩ n.h.sr n.h.sk n.h.rows (n.kids.map PN.b) h0.cell rfl h0.lo.f.ints h0.hi.f.ints ⟨h0.rws.seg, h0.vec⟩ rfl h0.kid (by simp [Pt.kids]) fun i m k hm hk => ?_
    have hk' : (n.kids.map PN.pt)[i]? = some k := hk
    rw [List.getElem?_map] at hm hk'
    cases e : n.kids[i]? with
    | none => rw [e] at hm; cases hm
    | some z =>
      rw [e] at hm hk'
      obtain rfl := Option.some.inj hm
      obtain rfl := Option.some.inj hk'
      have hz := List.mem_of_getElem? e
      exact ih z hz fun x hx => h x (by rw [PN.heads_eq]; exact List.mem_cons_of_mem _ (List.mem_flatMap.2 ⟨z, hz, hx⟩))

/-! ### a place in a tree -/
structure Hol where
  h : PH
  pre : List PN
  post : List PN

def Hol.fill (f : Hol) (n : PN) : PN := .mk f.h (f.pre ++ n :: f.post)
def plug : List Hol → PN → PN
  | [], n => n
  | f :: fs, n => plug fs (f.fill n)

def Hol.heads (f : Hol) (b : Nat) : List (PH × List Nat) := (f.h, f.pre.map PN.b ++ b :: f.post.map PN.b) :: (f.pre ++ f.post).flatMap PN.heads
def ctxH : List Hol → Nat → List (PH × List Nat)
  | [], _ => []
  | f :: fs, b => f.heads b ++ ctxH fs f.h.b

theorem fill_heads (f : Hol) (n : PN) : (f.fill n).heads.Perm (n.heads ++ f.heads n.b) := by
  unfold Hol.fill Hol.heads
  rw [PN.heads_eq]
  show ((f.h, (f.pre ++ n :: f.post).map PN.b) :: (f.pre ++ n :: f.post).flatMap PN.heads).Perm _
  rw [List.map_append, List.map_cons, List.flatMap_append, List.flatMap_append, List.flatMap_cons]
  refine List.Perm.trans (List.Perm.cons _ ?_) List.perm_middle.symm
  refine List.perm_append_comm_assoc _ _ _ |>.trans ?_
  exact .refl _

theorem plug_heads : ∀ (fs : List Hol) (n : PN), (plug fs n).heads.Perm (n.heads ++ ctxH fs n.b)
  | [], n => by rw [ctxH, List.append_nil]; exact .refl _
  | f :: fs, n => by
    show (plug fs (f.fill n)).heads.Perm _
    refine (plug_heads fs (f.fill n)).trans ?_
    rw [ctxH, ← List.append_assoc]
    exact (fill_heads f n).append_right _

theorem plug_b : ∀ (fs : List Hol) {n n' : PN}, n.b = n'.b → (plug fs n).b = (plug fs n').b
  | [], _, _, h => h
  | f :: fs, n, n', _ => plug_b fs (n := f.fill n) (n' := f.fill n') rfl

end Go.Proofs.YtbohcdjoglidhaaGreatDoor

/- VcReg -/
namespace Go.Proofs.YtbohcdjoglidhaaGreatDoor

theorem spec.flat_region {sh hw lw : Int} {ls hs is rs : Sl} {lo hi : List Int} {rows : List Rw} {u : H} {K : Int → Sl → Sl → Int → Int → Sl → H → Prop} (h1 : Ints u ls lo) (h2 : Ints u hs hi) (hr : Rws u rs rows) (b1 : lo.length ≤ 64) (b2 : hi.length ≤ 64) (b3 : rows.length ≤ 1000000)
    (hK : ∀ a b c u', OwnF u u' 3 1 a (lo.flatMap encI) → OwnF u u' 3 1 b (hi.flatMap encI) → OwnF u u' 3 1 c ((sortI (rows.map (·.id))).flatMap encI) → Far a b → Far a c → Far b c → K sh a b hw lw c u') : C.flat_region sh ls hs hw lw is rs u K := by
  have n1 := h1.len
  have n2 := h2.len
  have n3 := hr.len
  apply vc.flat_region
  refine spec.slices_Clone___int_int_ h1 (by omega) fun s0 u1 o1 _ => ⟨o1.le, spec.slices_Clone___int_int_ (h2.mono o1.le) (by omega) fun s2 u3 o2 _ => ?_⟩
  have hr3 := hr.mono (o1.le.trans o2.le)
  refine ⟨fun i x7 s8 s9 x10 x11 s12 w => 0 ≤ i ∧ i ≤ rs.n ∧ x7 = sh ∧ s8 = s0 ∧ s9 = s2 ∧ x10 = hw ∧ x11 = lw ∧ OwnF u3 w 3 1 s12 (((rows.take i.toNat).map (·.id)).flatMap encI), fun i _ _ _ _ _ _ _ => ((rs.n : Int) - i).toNat,
    ⟨by omega, by omega, rfl, rfl, rfl, rfl, rfl, by simpa using OwnF.nil (H.le.refl u3) 3 1⟩, ?_⟩
  rintro i x7 s8 s9 x10 x11 s12 w ⟨i0, i1, e1, e2, e3, e4, e5, ho⟩
  have hn12 := ho.ints.len
  rw [List.length_map, List.length_take] at hn12
  refine ⟨fun hi => ?_, fun hi => ?_⟩
  · obtain ⟨p, hp, r, hrr, c0, c1, _⟩ := (hr3.mono ho.le).at i0 hi
    refine ⟨p, hp, ⟨i0, hi⟩, _, c0, _, c1, sem_push' tInts (build_int _) (by decide) rfl (by simp [Value.oneCell']) ho (by omega) (by omega) fun s' u' ho2 hn2 hel hbl _ => ⟨⟨by omega, by omega⟩, ⟨by omega, by omega, e1, e2, e3, e4, e5, ?_⟩, by dsimp only; omega⟩⟩
    have e : rows.take (i + 1).toNat = rows.take i.toNat ++ [r] := by
      rw [show (i + 1).toNat = i.toNat + 1 by omega, List.take_add_one, hrr]
      rfl
    rw [e, List.map_append, List.flatMap_append]
    exact ho2
  · have hall : rows.take i.toNat = rows := List.take_of_length_le (by omega)
    rw [hall] at ho
    subst e1 e2 e3 e4 e5
    refine spec.slices_Sort___int_int_ ho (by simp; omega) fun u5 ho5 he5 => ?_
    have hf : ∀ g, s12.blk = some g → u3 g = none := ho.fresh
    have f13 : Far s8 s12 := OwnF.far (o1.mono o2.le) (H.le.refl u3) ho
    have f23 : Far s9 s12 := OwnF.far o2 (H.le.refl u3) ho
    have f12 : Far s8 s9 := OwnF.far o1 (H.le.refl u1) o2
    have l5 : u3.le u5 := ho5.le
    exact hK _ _ _ u5 ((o1.mono o2.le).mono l5) ((o2.weaken o1.le).mono l5) (ho5.weaken (o1.le.trans o2.le)) f12 f13 f23

end Go.Proofs.YtbohcdjoglidhaaGreatDoor

/- VcAll -/
namespace Go.Proofs.YtbohcdjoglidhaaGreatDoor

theorem build_rows00 : buildOf Tryz.prog 43 0 #[] = some (24, []) := by kernel_rfl

theorem flatR_one {l : List Rw} : ∀ y ∈ l.flatMap encR, y.oneCell' = true := by
  intro y hy
  obtain ⟨h, _, hy⟩ := List.mem_flatMap.1 hy
  exact encR_one h y hy

theorem spec.slices_Clone__api_Row_ {s : Sl} {l : List Rw} {u : H} {K : Sl → H → Prop} (hs : Seg u s 2 (l.flatMap encR)) (hb : s.n ≤ 1099511627776) (hK : ∀ s' u', OwnF u u' 24 2 s' (l.flatMap encR) → s'.n = s.n → K s' u') : C.slices_Clone__api_Row_ s u K := by
  apply vc.slices_Clone__api_Row_
  refine ⟨fun hn => ?_, fun _ => sem_clone tRows build_rows00 (by decide) hs flatR_one (by omega) hK⟩
  have hl := seg_nil hs hn
  have hl2 : s.n = 0 := by have := Seg.len hs; rw [hl] at this; simp at this; omega
  refine hK _ _ ?_ hl2.symm
  rw [hl]
  exact OwnF.nil (H.le.refl u) _ _

theorem allL_take_succ {ps : List Pt} {i : Nat} {k : Pt} (h : ps[i]? = some k) : Pt.allL (ps.take (i + 1)) = Pt.allL (ps.take i) ++ k.all := by
  rw [List.take_add_one, h, allL_flat, allL_flat]
  simp

theorem allL_take_le (ps : List Pt) (i : Nat) : (Pt.allL (ps.take i)).length ≤ (Pt.allL ps).length := by
  conv => rhs; rw [← List.take_append_drop i ps]
  rw [allL_flat, allL_flat, List.flatMap_append, List.length_append]
  omega

theorem spec.flat_Part__All {v : H} {n : Nat} {p : Pt} (hp : PartAt v n p) : ∀ {u : H} {K : Sl → H → Prop}, v.le u → p.all.length ≤ 1000000 →
    (∀ (s : Sl) (L : List Rw) (u' : H), OwnF u u' 24 2 s (L.flatMap encR) → L.map Rw.pr = p.all → (∀ r ∈ L, Ints v r.s r.v) → K s u') → C.flat_Part__All (some ⟨n, 0, none⟩) u K := by
  induction hp with
  | @mk n p ls hs is rs ks rows ps cell isn lo hi at' pr kids len each ih =>
  intro u K hv hb hK
  have hc := hv _ _ cell
  have hrl : p.rows.length = rows.length := by rw [← pr, List.length_map]
  rw [Pt.all_eq] at hb hK
  rw [List.length_append] at hb
  have hrn := at'.len
  apply vc.flat_Part__All
  refine ⟨_, rfl, rs, H.cell?_of hc 6, spec.slices_Clone__api_Row_ (Seg.mono at'.1 hv) (by omega) fun s2 u3 o2 _ => ⟨_, rfl, ks, H.cell?_of (o2.le _ _ hc) 7, ?_⟩⟩
  have hkm := Nat.le_trans (Seg.cap kids) (Seg.max kids)
  have hkn : ks.n = ps.length := by have := kids.len; simpa using this.symm
  refine ⟨fun s8 x w => 0 ≤ x ∧ x ≤ ks.n ∧ ∃ L : List Rw, OwnF u w 24 2 s8 (L.flatMap encR) ∧ L.map Rw.pr = p.rows ++ Pt.allL (p.kids.take x.toNat) ∧ ∀ r ∈ L, Ints v r.s r.v, fun _ x _ => ((ks.n : Int) - x).toNat,
    ⟨by omega, by omega, rows, o2, by simpa [Pt.allL] using pr, fun r hr => at'.2 r hr⟩, ?_⟩
  rintro s8 x w ⟨x0, x1, L, ho, hL, hI⟩
  refine ⟨fun hx => ?_, fun hx => ?_⟩
  · have hxl : x.toNat < ps.length := by omega
    obtain ⟨k, hk⟩ : ∃ k, p.kids[x.toNat]? = some k := ⟨_, List.getElem?_eq_getElem (by omega)⟩
    have hm : ps[x.toNat]? = some ps[x.toNat] := List.getElem?_eq_getElem hxl
    obtain ⟨a, ha, hcell⟩ := Seg.elem (enc := fun n : Nat => [Value.pointer (some ⟨n, 0, none⟩)]) (k := 1) (fun _ => rfl) (by decide) (xs := ps) (by
      have e : ps.flatMap (fun n : Nat => [Value.pointer (some ⟨n, 0, none⟩)]) = ps.map fun n => Value.pointer (some ⟨n, 0, none⟩) := by
        generalize ps = z
        induction z with
        | nil => rfl
        | cons y z ih => rw [List.flatMap_cons, List.map_cons, ih]; rfl
      rw [e]
      exact kids.mono (hv.trans ho.le)) hm
    have hall := allL_take_succ hk
    have hle := allL_take_le p.kids (x.toNat + 1)
    rw [hall, List.length_append] at hle
    have hLl := congrArg List.length hL
    rw [List.length_map, List.length_append] at hLl
    have hn8 : s8.n = L.length := flat_n encR_len (by decide) ho.own.seg
    refine ⟨a, ha, ⟨x0, hx⟩, _, hcell 0 _ rfl, ih _ _ _ hm hk (hv.trans ho.le) (by omega) fun s13 L2 u14 ho2 hL2 hI2 => ?_⟩
    have hl2 := congrArg List.length hL2
    rw [List.length_map] at hl2
    have hn13 := flat_n encR_len (by decide) ho2.own.seg
    refine sem_appendF tRows (by decide) (ho.mono ho2.le) ho2.own.seg flatR_one (by omega) (by omega) fun s15 u16 ho3 _ => ⟨⟨by omega, by omega⟩, ⟨by omega, by omega, L ++ L2, by rw [List.flatMap_append]; exact ho3, ?_, fun r hr => ?_⟩, by dsimp only; omega⟩
    · rw [List.map_append, hL, hL2, show (x + 1).toNat = x.toNat + 1 by omega, hall, List.append_assoc]
    · rcases List.mem_append.1 hr with h | h
      · exact hI r h
      · exact hI2 r h
  · rw [List.take_of_length_le (by omega)] at hL
    exact hK _ L w ho hL hI

end Go.Proofs.YtbohcdjoglidhaaGreatDoor

/- VcRowF -/
namespace Go.Proofs.YtbohcdjoglidhaaGreatDoor

/-- What a predicate's function value is asked of rows: it looks at no more than what was known at first. -/
def RowPred (ub : H) (fv : Value) (p : Rw → Bool) : Prop := ∀ (r : Rw) (v : H) (K : Bool → H → Prop), ub.le v → K (p r) v → ClY Tryz.prog fv #[.agg #[.int .i64 r.id, .slice r.s.a r.s.n r.s.c]] [.one .bool] v K

theorem spec.slices_IndexFunc__api_Row_ {ub u : H} {s : Sl} {l : List Rw} {fv : Value} {p : Rw → Bool} {K : Int → H → Prop} (hs : Seg u s 2 (l.flatMap encR)) (hp : RowPred ub fv p) (hub : ub.le u)
    (hK : ∀ (i : Nat) r, l[i]? = some r → (∀ (k : Nat) r', k < i → l[k]? = some r' → p r' = false) → p r = true → K i u) (hN : (∀ r ∈ l, p r = false) → K (-1) u) : C.slices_IndexFunc__api_Row_ s fv u K := by
  have hn : s.n = l.length := flat_n encR_len (by decide) hs
  have hm : s.n ≤ 9223372036854775807 := Nat.le_trans (Seg.cap hs) (Seg.max hs)
  apply vc.slices_IndexFunc__api_Row_
  refine ⟨fun _ i v => v = u ∧ 0 ≤ i ∧ i ≤ l.length ∧ ∀ (k : Nat) r', k < i.toNat → l[k]? = some r' → p r' = false, fun _ i _ => l.length - i.toNat, ⟨rfl, by omega, by omega, fun k r' hk => by simp at hk⟩, ?_⟩
  rintro _ i v ⟨rfl, i0, i1, hk⟩
  refine ⟨fun hil => ?_, fun hge => hN fun r hr => ?_⟩
  · have hl : i.toNat < l.length := by omega
    have hx : l[i.toNat]? = some l[i.toNat] := List.getElem?_eq_getElem hl
    obtain ⟨q, hq, hc⟩ := Seg.elem encR_len (by decide) hs hx
    have c0 := hc 0 _ rfl
    rw [Addr.add_zero'] at c0
    refine ⟨q, hq, ⟨i0, hil⟩, _, c0, _, hc 1 _ rfl, hp _ _ _ hub ⟨fun hb => ?_, fun hb => ⟨⟨by omega, by omega⟩, ⟨rfl, by omega, by omega, fun k r' hk' hr' => ?_⟩, by dsimp only; omega⟩⟩⟩
    · have := hK i.toNat _ hx hk hb
      rw [show ((i.toNat : Nat) : Int) = i by omega] at this
      exact this
    · by_cases e : k = i.toNat
      · subst e
        rw [hx] at hr'; cases hr'
        exact hb
      · exact hk k r' (by omega) hr'
  · obtain ⟨k, hk', rfl⟩ := List.getElem_of_mem hr
    exact hk k _ (by omega) (List.getElem?_eq_getElem hk')

end Go.Proofs.YtbohcdjoglidhaaGreatDoor

/- VcDelR -/
namespace Go.Proofs.YtbohcdjoglidhaaGreatDoor

def noRow : Rw := ⟨0, ⟨none, 0, 0⟩, []⟩

theorem wrote_step {u : H} {w w' : World} {b : Nat} {o o' : Obj} (hw : Sub u w) (hb : u b = some o) (k : Wrote b o' w w') : Step u [] w (u.ins b o') [] w' := by
  refine ⟨fun x y h => ?_, k.os, k.tape, k.output, k.drawn, Nat.le_of_eq k.size.symm, fun x _ hx _ => k.rest x (fun e => by rw [e, hb] at hx; cases hx), fun x _ hx => ?_, [], by simp, by simp⟩
  · unfold H.ins at h
    split at h
    · rename_i e; rw [e]; cases h; exact k.at_
    · rename_i e; rw [k.rest x e]; exact hw _ _ h
  · rw [H.ins_other _ _ (fun e => by rw [e, hb] at hx; cases hx)]; exact hx

theorem sem_clearR {u : H} {g i n c : Nat} {cur : Array Value} {T : TypeId} (hg : u g = some (.cells cur T (0, 0))) (hn : i + n * 2 ≤ cur.size) {ty : TypeId} {K : H → Prop} (hK : K (u.ins g (.cells (wr cur i ((List.replicate n noRow).flatMap encR)) T (0, 0)))) :
    SemT Tryz.prog (Builtin.clear_ #[43] ty #[.slice (some ⟨g, i, none⟩) n c]) [] u K := by
  intro w hw
  obtain ⟨ht, _⟩ := elemT_spec tRows
  have hlen : ((List.replicate n noRow).flatMap encR).length = n * 2 := by rw [flat_len encR_len, List.length_replicate]
  rcases Nat.eq_zero_or_pos n with rfl | hpos
  · refine ⟨.tuple #[], w, u, by simp [Builtin.clear_, run_underlying ht], ⟨[], .nil, rfl, ?_⟩, Step.refl hw⟩
    have e : u.ins g (.cells (wr cur i ((List.replicate 0 noRow).flatMap encR)) T (0, 0)) = u := H.ins_self (by rw [hg]; rfl)
    rw [e] at hK
    exact hK
  · obtain ⟨w', hr, hwr⟩ := storeCells_run (P := Tryz.prog) (b := g) (off := i) (T := T) ((List.replicate n noRow).flatMap encR) 0 cur w (hw _ _ hg) (by rw [hlen]; omega) (fun v hv => by
      obtain ⟨r, hr, hv⟩ := List.mem_flatMap.1 hv
      rw [List.eq_of_mem_replicate hr] at hv
      simp [noRow, encR] at hv
      rcases hv with rfl | rfl <;> rfl)
    have hv : ∀ w, (zeroValue 24).run Tryz.prog w = .ok (.agg #[.int .i64 0, .slice none 0 0]) w := fun _ => by kernel_rfl
    have hzc : (Builtin.zeroCells (Value.agg #[.int .i64 0, .slice none 0 0]).cells n).toList = (List.replicate n noRow).flatMap encR := by
      have := made_flat (enc := encR) encR_len (by decide) noRow n
      rw [← this]
      rfl
    obtain ⟨m, rfl⟩ : ∃ m, n = m + 1 := ⟨n - 1, by omega⟩
    refine ⟨.tuple #[], w', _, by simp [Builtin.clear_, run_underlying ht, hv, hzc, hr], ⟨[], .nil, rfl, hK⟩, wrote_step hw hg hwr⟩

theorem OwnF.clearR {u0 u : H} {s : Sl} {l : List Rw} (h : OwnF u0 u 24 2 s (l.flatMap encR)) {i : Nat} (hi : i ≤ s.n) {ty : TypeId} {K : H → Prop}
    (hK : ∀ (u' : H) (l' : List Rw), OwnF u0 u' 24 2 s (l'.flatMap encR) → l'.take i = l.take i → l'.length = l.length → Else u u' s → K u') : SemT Tryz.prog (Builtin.clear_ #[43] ty #[.slice (s.part i s.n s.c 2).a (s.part i s.n s.c 2).n (s.part i s.n s.c 2).c]) [] u K := by
  have hsn : s.n = l.length := flat_n encR_len (by decide) h.own.seg
  obtain ⟨ht0, _⟩ := elemT_spec tRows
  rcases h.own.is with h0 | ⟨g, cur, ha, hg, hn, hc, hs, ht⟩
  · subst h0
    have hl : l = [] := List.eq_nil_of_length_eq_zero hsn.symm
    subst hl
    have hi0 : i = 0 := by simpa using hi
    subst hi0
    refine SemT.pure [] (fun w hw => ?_) .nil (hK u [] h rfl rfl (Else.refl _ _))
    simp [Sl.part, Builtin.clear_, run_underlying ht0]
    rfl
  · rcases Nat.eq_or_lt_of_le hi with rfl | hlt
    · have e : (s.part s.n s.n s.c 2).n = 0 := by simp [Sl.part]
      refine SemT.pure [] (fun w hw => ?_) .nil (hK u l h rfl rfl (Else.refl _ _))
      rw [e]
      cases (s.part s.n s.n s.c 2).a <;> simp [Builtin.clear_, run_underlying ht0] <;> rfl
    · have hpa : (s.part i s.n s.c 2).a = some ⟨g, i * 2, none⟩ := by
        unfold Sl.part
        simp only
        rw [if_neg (by omega), ha]
        simp [Addr.add_lit]
      rw [hpa]
      have hpn : (s.part i s.n s.c 2).n = s.n - i := rfl
      rw [hpn]
      have hsz : i * 2 + (s.n - i) * 2 ≤ cur.size := by rw [hs]; omega
      refine sem_clearR hg hsz ?_
      have hrl : ((List.replicate (s.n - i) noRow).flatMap encR).length = (s.n - i) * 2 := by rw [flat_len encR_len, List.length_replicate]
      have hwl := wr_toList cur (i * 2) ((List.replicate (s.n - i) noRow).flatMap encR) (by rw [hrl]; omega)
      rw [hrl] at hwl
      have hll : (l.take i ++ List.replicate (s.n - i) noRow).length = l.length := by simp; omega
      refine hK _ (l.take i ++ List.replicate (s.n - i) noRow) ⟨⟨by rw [flat_len encR_len, hll, hsn], .inr ⟨g, _, ha, H.ins_same _ _ _, hn, hc, ?_, ?_⟩⟩, fun b o hb => ?_, h.fresh⟩ ?_ hll ?_
      · rw [← Array.length_toList, hwl]; simp [hrl]; omega
      · rw [hwl, List.flatMap_append]
        have ht' : cur.toList.take (s.n * 2) = l.flatMap encR := ht
        have h1 : cur.toList.take (i * 2) = (l.take i).flatMap encR := by
          rw [← flat_take encR_len, ← ht', List.take_take, Nat.min_eq_left (by omega)]
        have hl1 : ((l.take i).flatMap encR).length = i * 2 := by rw [flat_len encR_len]; simp; omega
        rw [h1, List.take_append_of_le_length (by rw [List.length_append, hl1, hrl]; omega), List.take_of_length_le (by rw [List.length_append, hl1, hrl]; omega)]
      · have : b ≠ g := fun e => by
          have := h.fresh g (by simp [Sl.blk, ha])
          rw [e, this] at hb; cases hb
        rw [H.ins_other _ _ this]; exact h.le b o hb
      · rw [List.take_append_of_le_length (by simp; omega), List.take_take, Nat.min_self]
      · intro b o hb hne
        rw [H.ins_other _ _ (fun e => hne (by simp [Sl.blk, ha, e]))]; exact hb

theorem spec.slices_DeleteFunc__api_Row_ {u0 ub u : H} {s : Sl} {l : List Rw} {fv : Value} {p : Rw → Bool} {K : Sl → H → Prop} (ho : OwnF u0 u 24 2 s (l.flatMap encR)) (hp : RowPred ub fv p) (hub : ub.le u) (hbs : ∀ b, s.blk = some b → ub b = none)
    (hK : ∀ s' u', OwnF u0 u' 24 2 s' ((l.filter fun x => !p x).flatMap encR) → s'.blk = s.blk → Else u u' s → K s' u') : C.slices_DeleteFunc__api_Row_ s fv u K := by
  have hsn : s.n = l.length := flat_n encR_len (by decide) ho.own.seg
  have hmx : s.n ≤ 9223372036854775807 := Nat.le_trans (Seg.cap ho.own.seg) (Seg.max ho.own.seg)
  apply vc.slices_DeleteFunc__api_Row_
  refine spec.slices_IndexFunc__api_Row_ ho.own.seg hp hub (fun i r hir hno hyes => ⟨fun h => by omega, fun _ => ?_⟩) fun hno => ⟨fun _ => ?_, fun h => absurd rfl h⟩
  · have hi : i < l.length := (List.getElem?_eq_some_iff.1 hir).1
    have hbefore : (l.take i).filter (fun x => !p x) = l.take i := by
      rw [List.filter_eq_self]
      intro a ha
      obtain ⟨k, hk, rfl⟩ := List.mem_iff_getElem.1 ha
      simp only [List.length_take] at hk
      rw [List.getElem_take, hno k _ (by omega) (List.getElem?_eq_getElem (by omega))]
      rfl
    refine ⟨⟨by omega, by omega⟩, ?_⟩
    refine ⟨fun a j v => 0 ≤ a ∧ a < j ∧ j ≤ l.length ∧ Else u v s ∧ ∃ m : List Rw, m.length = l.length ∧ OwnF u0 v 24 2 s (m.flatMap encR) ∧ m.take a.toNat = (l.take j.toNat).filter (fun x => !p x) ∧ m.drop j.toNat = l.drop j.toNat,
      fun _ j _ => l.length - j.toNat, ⟨by omega, by omega, by omega, Else.refl _ _, l, rfl, ho, ?_, rfl⟩, ?_⟩
    · rw [show ((i : Int) + 1).toNat = i + 1 by omega, Int.toNat_natCast, List.take_add_one, hir]
      simp only [Option.toList_some, List.filter_append, hbefore, List.filter_cons, hyes]
      simp
    rintro a j v ⟨a0, aj, jl, hel, m, hml, hom, htk, hdr⟩
    have hubv : ub.le v := fun b o hb => hel b o (hub b o hb) fun e => by rw [hbs b e] at hb; cases hb
    refine ⟨fun hjl => ?_, fun hge => ?_⟩
    · have hjlt : j.toNat < l.length := by omega
      have hjx : l[j.toNat]? = some l[j.toNat] := List.getElem?_eq_getElem hjlt
      have hjm : m[j.toNat]? = some l[j.toNat] := by
        have := congrArg (fun z => z[0]?) hdr
        simp only [List.getElem?_drop, Nat.add_zero] at this
        rw [this, hjx]
      obtain ⟨q, hq, hc⟩ := Seg.elem encR_len (by decide) hom.own.seg hjm
      have c0 := hc 0 _ rfl
      rw [Addr.add_zero'] at c0
      obtain ⟨x, hx⟩ : ∃ x, x = l[j.toNat] := ⟨_, rfl⟩
      rw [← hx] at hjx hjm c0 hc
      have htk2 : (l.take (j.toNat + 1)).filter (fun x => !p x) = m.take a.toNat ++ (if p x = true then [] else [x]) := by
        rw [List.take_add_one, hjx, htk]
        simp only [Option.toList_some, List.filter_append, List.filter_cons, List.filter_nil]
        cases p x <;> simp
      have hdr2 : ∀ m' : List Rw, (∀ k, a.toNat < k → m'[k]? = m[k]?) → m'.drop (j + 1).toNat = l.drop (j + 1).toNat := fun m' hm' => by
        have e : l.drop (j + 1).toNat = m.drop (j + 1).toNat := by
          rw [show (j + 1).toNat = j.toNat + 1 by omega, ← List.drop_drop, ← List.drop_drop, hdr]
        rw [e]
        apply List.ext_getElem?
        intro k
        rw [List.getElem?_drop, List.getElem?_drop, hm' _ (by omega)]
      refine ⟨q, hq, ⟨by omega, hjl⟩, _, c0, _, hc 1 _ rfl, hp x _ _ hubv ⟨fun hb => ?_, fun hb => ?_⟩⟩
      · have hpf : p x = false := by simpa using hb
        rw [hpf] at htk2
        refine ⟨q, hq, ⟨by omega, by omega⟩, ?_⟩
        refine OwnF.store (enc := encR) encR_len hom (by decide) (i := a.toNat) (by omega) (y := x) (by simp [encR, Value.oneCell']) hq fun u2 ho2 he2 _ => ⟨⟨by omega, by omega⟩, ⟨by omega, by omega⟩, ⟨by omega, by omega, by omega, fun b o hb hne => he2 b o (hel b o hb hne) hne, _, by simpa using hml, ho2, ?_, ?_⟩, by dsimp only; omega⟩
        · rw [show (j + 1).toNat = j.toNat + 1 by omega, htk2, show (a + 1).toNat = a.toNat + 1 by omega, List.take_add_one, List.getElem?_set_self (by omega), List.take_set_of_le (Nat.le_refl _)]
          simp
        · exact hdr2 _ fun k hk => List.getElem?_set_ne (by omega)
      · rw [hb] at htk2
        refine ⟨⟨by omega, by omega⟩, ⟨by omega, by omega, by omega, hel, m, hml, hom, ?_, hdr2 m fun _ _ => rfl⟩, by dsimp only; omega⟩
        rw [show (j + 1).toNat = j.toNat + 1 by omega, htk2]; simp
    · have hjl : j.toNat = l.length := by
        have : ¬ j < (s.n : Int) := hge
        omega
      have hcap := Seg.cap hom.own.seg
      rw [hjl, List.take_length] at htk
      refine sem_slice (P := Tryz.prog) tRows (l := a.toNat) (h := s.n) (m := s.c) (.inr (by rw [Int.toNat_of_nonneg a0])) (.inl ⟨rfl, rfl⟩) (.inl ⟨rfl, rfl⟩) (by omega) hcap (Nat.le_refl _) hcap ?_
      refine hom.clearR (i := a.toNat) (by omega) fun u2 m2 ho2 h1 h2 he2 => ?_
      refine sem_slice (P := Tryz.prog) tRows (l := 0) (h := a.toNat) (m := s.c) (.inl ⟨rfl, rfl⟩) (.inr (by rw [Int.toNat_of_nonneg a0])) (.inl ⟨rfl, rfl⟩) (by omega) (by omega) (Nat.le_refl _) hcap ?_
      obtain ⟨hf, hfb, _⟩ := ho2.front (m := a.toNat) (by omega)
      have e : (m2.flatMap encR).take (a.toNat * 2) = (l.filter fun x => !p x).flatMap encR := by
        rw [flat_take encR_len, h1, htk]
      rw [e] at hf
      exact hK _ _ hf hfb fun b o hb hne => he2 b o (hel b o hb hne) hne
  · have e : l.filter (fun x => !p x) = l := List.filter_eq_self.2 fun a ha => by rw [hno a ha]; rfl
    exact hK s u (by rw [e]; exact ho) rfl (Else.refl _ _)

end Go.Proofs.YtbohcdjoglidhaaGreatDoor

/- VcPn1 -/
namespace Go.Proofs.YtbohcdjoglidhaaGreatDoor

namespace Pt
mutual
def del (id : Int) : Pt → Pt
  | .mk sh lo hi rad rows kids => .mk sh lo hi rad (rows.filter fun x => x.1 != id) (delL id kids)
def delL (id : Int) : List Pt → List Pt
  | [] => []
  | p :: ps => p.del id :: delL id ps
end
theorem delL_eq (id : Int) : ∀ ps : List Pt, delL id ps = ps.map (del id)
  | [] => rfl
  | p :: ps => by rw [delL, delL_eq id ps, List.map_cons]
theorem ind {P : Pt → Prop} (h : ∀ n, (∀ k ∈ n.kids, P k) → P n) : ∀ n, P n := by
  intro n
  exact Pt.rec (motive_1 := P) (motive_2 := fun ns => ∀ k ∈ ns, P k) (fun _ _ _ _ _ _ ih => h _ ih) (fun k hk => (by cases hk)) (fun n ns h1 h2 k hk => by
    rcases List.mem_cons.1 hk with rfl | hk
    · exact h1
    · exact h2 k hk) n
theorem del_eq (id : Int) (p : Pt) : p.del id = .mk p.sh p.lo p.hi p.rad (p.rows.filter fun x => x.1 != id) (p.kids.map (del id)) := by
  cases p
  rw [del, delL_eq]
  rfl
theorem del_all (id : Int) (p : Pt) : (p.del id).all = p.all.filter fun x => x.1 != id := by
  induction p using ind with
  | h p ih =>
    rw [del_eq, all_eq, all_eq, List.filter_append]
    show (p.rows.filter fun x => x.1 != id) ++ allL (p.kids.map (del id)) = _
    congr 1
    rw [allL_flat, allL_flat, List.flatMap_map]
    obtain ⟨ks, hks⟩ : ∃ ks, ks = p.kids := ⟨_, rfl⟩
    rw [← hks] at ih ⊢
    clear hks
    induction ks with
    | nil => rfl
    | cons k ks ihk =>
      rw [List.flatMap_cons, List.flatMap_cons, List.filter_append, ih k (List.mem_cons_self ..), ihk fun j hj => ih j (List.mem_cons_of_mem _ hj)]
theorem del_ok {id d : Int} {p : Pt} (h : PtOk d p) : PtOk d (p.del id) := by
  induction p using ind with
  | h p ih =>
    have h1 := h.reg
    have h2 := h.ins
    have h3 := h.kids
    have hr : (p.del id).rgn [] = p.rgn [] := by rw [del_eq]; rfl
    refine .mk ?_ (fun x hx => ?_) fun k hk => ?_
    · rw [hr]; exact h1
    · rw [hr]
      rw [del_all] at hx
      exact h2 x (List.mem_filter.1 hx).1
    · rw [del_eq] at hk
      obtain ⟨k', hk', rfl⟩ := List.mem_map.1 (show k ∈ p.kids.map (del id) from hk)
      exact ih k' hk' (h3 k' hk')
theorem del_size (id : Int) (p : Pt) : (p.del id).size = p.size := by
  induction p using ind with
  | h p ih =>
    rw [del_eq, size_eq, size_eq]
    show 1 + sizeL (p.kids.map (del id)) = _
    congr 1
    obtain ⟨ks, hks⟩ : ∃ ks, ks = p.kids := ⟨_, rfl⟩
    rw [← hks] at ih ⊢
    clear hks
    induction ks with
    | nil => rfl
    | cons k ks ihk =>
      rw [List.map_cons, sizeL, sizeL, ih k (List.mem_cons_self ..), ihk fun j hj => ih j (List.mem_cons_of_mem _ hj)]
end Pt

/-- All parts are of one shape. -/
inductive PtSh (s : Int) : Pt → Prop where
  | mk {p : Pt} (sh : p.sh = s) (kids : ∀ k ∈ p.kids, PtSh s k) : PtSh s p
theorem PtSh.sh {s : Int} {p : Pt} (h : PtSh s p) : p.sh = s := by cases h; assumption
theorem PtSh.kids {s : Int} {p : Pt} (h : PtSh s p) : ∀ k ∈ p.kids, PtSh s k := by cases h; assumption
theorem PtSh.del {s id : Int} {p : Pt} (h : PtSh s p) : PtSh s (p.del id) := by
  induction p using Pt.ind with
  | h p ih =>
    rw [Pt.del_eq]
    refine .mk h.sh fun k hk => ?_
    obtain ⟨k', hk', rfl⟩ := List.mem_map.1 (show k ∈ p.kids.map (Pt.del id) from hk)
    exact ih k' hk' (h.kids k' hk')

theorem flat_apart {α β : Type} {f : α → List β} : ∀ {ks : List α}, (ks.flatMap f).Nodup → ∀ {i j : Nat} {a b : α} {c : β}, ks[i]? = some a → ks[j]? = some b → i ≠ j → c ∈ f a → c ∉ f b := by
  intro ks
  induction ks with
  | nil => intro _ i j a b c hi; simp at hi
  | cons k ks ih =>
    intro hn i j a b c hi hj hne ha hb
    rw [List.flatMap_cons, List.nodup_append] at hn
    obtain ⟨_, h2, h3⟩ := hn
    cases i with
    | zero =>
      cases j with
      | zero => exact hne rfl
      | succ j =>
        obtain rfl := Option.some.inj (show some k = some a from hi)
        exact h3 c ha c (List.mem_flatMap.2 ⟨b, List.mem_of_getElem? (show ks[j]? = some b from hj), hb⟩) rfl
    | succ i =>
      cases j with
      | zero =>
        obtain rfl := Option.some.inj (show some k = some b from hj)
        exact h3 c hb c (List.mem_flatMap.2 ⟨a, List.mem_of_getElem? (show ks[i]? = some a from hi), ha⟩) rfl
      | succ j => exact ih h2 (show ks[i]? = some a from hi) (show ks[j]? = some b from hj) (by omega) ha hb

/-- A part's rows are others. -/
theorem st_rows {u : H} {h : PH} (hc : u h.b = some (.cells (partC h).toArray 132 (0, 0))) (s : Sl) (rows : List Rw) {f : H → Prop}
    (hf : f (u.ins h.b (.cells (partC { h with sr := s, rows := rows }).toArray 132 (0, 0)))) : H.St u ((Addr.mk h.b 0 none).add 6) [.slice s.a s.n s.c] f := by
  exact ⟨_, _, hc, rfl, by simp [partC, Addr.add_lit], by simp [Value.oneCell'], hf⟩

/-- What is left of a tree of parts where a row was dropped. -/
structure DropR (id : Int) (n : PN) (u' : H) (n' : PN) : Prop where
  one : ∀ x ∈ n'.heads, PhAt u' x
  own : n'.own = n.own
  b : n'.b = n.b
  pt : n'.pt = n.pt.del id
  rows : ∀ x ∈ n'.heads, ∀ r ∈ x.1.rows, ∃ y ∈ n.heads, r ∈ y.1.rows

end Go.Proofs.YtbohcdjoglidhaaGreatDoor

/- VcPn2 -/
namespace Go.Proofs.YtbohcdjoglidhaaGreatDoor

theorem plug_all (fs : List Hol) (n : PN) : (plug fs n).pt.all.Perm (n.pt.all ++ (ctxH fs n.b).flatMap fun x => x.1.rows.map Rw.pr) := by
  rw [PN.pt_all, PN.pt_all, ← List.flatMap_append]
  exact (plug_heads fs n).flatMap_right _

theorem plug_own (fs : List Hol) (n : PN) : (plug fs n).own.Perm (n.own ++ (ctxH fs n.b).flatMap fun x => x.1.blks) := by
  unfold PN.own
  rw [← List.flatMap_append]
  exact (plug_heads fs n).flatMap_right _

/-- The region of a frame. -/
def Hol.rgn (f : Hol) : Rgn := (Pt.mk f.h.sh f.h.lo f.h.hi f.h.rad [] []).rgn []

theorem fill_rgn (f : Hol) (n : PN) : (f.fill n).pt.rgn [] = f.rgn := by rw [PN.pt_eq]; rfl
theorem fill_kids (f : Hol) (n : PN) : (f.fill n).pt.kids = (f.pre ++ n :: f.post).map PN.pt := by rw [PN.pt_eq]; rfl
theorem fill_all (f : Hol) (n : PN) (x : Prw) : x ∈ (f.fill n).pt.all ↔ x ∈ f.h.rows.map Rw.pr ∨ (∃ k ∈ f.pre ++ f.post, x ∈ k.pt.all) ∨ x ∈ n.pt.all := by
  rw [Pt.all_eq, fill_kids, List.mem_append, allL_flat, List.mem_flatMap]
  have er : (f.fill n).pt.rows = f.h.rows.map Rw.pr := by rw [PN.pt_eq]; rfl
  rw [er]
  constructor
  · rintro (h | ⟨p, hp, hx⟩)
    · exact .inl h
    · obtain ⟨k, hk, rfl⟩ := List.mem_map.1 hp
      rw [List.mem_append, List.mem_cons] at hk
      rcases hk with hk | rfl | hk
      · exact .inr (.inl ⟨k, List.mem_append_left _ hk, hx⟩)
      · exact .inr (.inr hx)
      · exact .inr (.inl ⟨k, List.mem_append_right _ hk, hx⟩)
  · rintro (h | ⟨k, hk, hx⟩ | hx)
    · exact .inl h
    · refine .inr ⟨k.pt, List.mem_map_of_mem ?_, hx⟩
      rw [List.mem_append, List.mem_cons]
      rcases List.mem_append.1 hk with hk | hk
      · exact .inl hk
      · exact .inr (.inr hk)
    · exact .inr ⟨n.pt, List.mem_map_of_mem (by simp), hx⟩

theorem fill_ok {d : Int} {f : Hol} {n n' : PN} (h : PtOk d (f.fill n).pt) (h' : PtOk d n'.pt) (hall : ∀ x ∈ n'.pt.all, x ∈ n.pt.all ∨ Inside f.rgn x.2) : PtOk d (f.fill n').pt := by
  have h1 := h.reg
  have h2 := h.ins
  have h3 := h.kids
  rw [fill_rgn] at h1 h2
  rw [fill_kids] at h3
  refine .mk (by rw [fill_rgn]; exact h1) (fun x hx => ?_) fun k hk => ?_
  · rw [fill_rgn]
    rcases (fill_all f n' x).1 hx with hx | hx | hx
    · exact h2 x ((fill_all f n x).2 (.inl hx))
    · exact h2 x ((fill_all f n x).2 (.inr (.inl hx)))
    · rcases hall x hx with hx | hx
      · exact h2 x ((fill_all f n x).2 (.inr (.inr hx)))
      · exact hx
  · rw [fill_kids] at hk
    obtain ⟨z, hz, rfl⟩ := List.mem_map.1 hk
    rw [List.mem_append, List.mem_cons] at hz
    rcases hz with hz | rfl | hz
    · exact h3 _ (List.mem_map_of_mem (List.mem_append_left _ hz))
    · exact h'
    · exact h3 _ (List.mem_map_of_mem (List.mem_append_right _ (List.mem_cons_of_mem _ hz)))

theorem plug_sub {d : Int} : ∀ (fs : List Hol) {n : PN}, PtOk d (plug fs n).pt → PtOk d n.pt
  | [], _, h => h
  | f :: fs, n, h => by
    have := plug_sub fs (n := f.fill n) h
    have h3 := this.kids
    rw [fill_kids] at h3
    exact h3 _ (List.mem_map_of_mem (by simp))

theorem plug_ok {d : Int} : ∀ (fs : List Hol) {n n' : PN}, PtOk d (plug fs n).pt → PtOk d n'.pt → (∀ x ∈ n'.pt.all, x ∈ n.pt.all ∨ ∀ f ∈ fs, Inside f.rgn x.2) → PtOk d (plug fs n').pt
  | [], _, _, _, h', _ => h'
  | f :: fs, n, n', h, h', hall => by
    refine plug_ok fs (n := f.fill n) (n' := f.fill n') h (fill_ok (plug_sub fs h) h' fun x hx => (hall x hx).imp id fun hx => hx f (List.mem_cons_self ..)) fun x hx => ?_
    rcases (fill_all f n' x).1 hx with hx | hx | hx
    · exact .inl ((fill_all f n x).2 (.inl hx))
    · exact .inl ((fill_all f n x).2 (.inr (.inl hx)))
    · rcases hall x hx with hx | hx
      · exact .inl ((fill_all f n x).2 (.inr (.inr hx)))
      · exact .inr fun g hg => hx g (List.mem_cons_of_mem _ hg)

end Go.Proofs.YtbohcdjoglidhaaGreatDoor

/- VcPn3 -/
namespace Go.Proofs.YtbohcdjoglidhaaGreatDoor

theorem PN.shp {s : Int} (n : PN) (h : ∀ x ∈ n.heads, x.1.sh = s) : PtSh s n.pt := by
  induction n using PN.ind with
  | h n ih =>
    rw [PN.pt_eq]
    refine .mk (h (n.h, n.kids.map PN.b) (by rw [PN.heads_eq]; exact List.mem_cons_self ..)) fun k hk => ?_
    obtain ⟨z, hz, rfl⟩ := List.mem_map.1 (show k ∈ n.kids.map PN.pt from hk)
    exact ih z hz fun x hx => h x (by rw [PN.heads_eq]; exact List.mem_cons_of_mem _ (List.mem_flatMap.2 ⟨z, hz, hx⟩))

theorem PN.shp' {s : Int} (n : PN) (h : PtSh s n.pt) : ∀ x ∈ n.heads, x.1.sh = s := by
  induction n using PN.ind with
  | h n ih =>
    rw [PN.pt_eq] at h
    intro x hx
    rw [PN.heads_eq] at hx
    rcases List.mem_cons.1 hx with rfl | hx
    · exact h.sh
    · obtain ⟨z, hz, hx⟩ := List.mem_flatMap.1 hx
      exact ih z hz (h.kids _ (List.mem_map_of_mem hz)) x hx

/-- On the way down. -/
structure Way (sh : Int) (ub u : H) (d : Int) (v : List Int) (O W : Nat → Prop) (n0 : PN) (fs : List Hol) (n : PN) : Prop where
  base : ub.le u
  one : ∀ x ∈ n.heads ++ ctxH fs n.b, PhAt u x
  nodup : ((n.heads ++ ctxH fs n.b).flatMap fun x => x.1.blks).Nodup
  out : ∀ c ∈ (n.heads ++ ctxH fs n.b).flatMap (fun x => x.1.blks), ub c = none ∧ u c ≠ none ∧ O c
  known : ∀ c, ub c ≠ none → O c
  vec : ∀ x ∈ n.heads ++ ctxH fs n.b, ∀ r ∈ x.1.rows, Ints ub r.s r.v ∧ ∀ g, r.s.blk = some g → W g
  ok : PtOk d (plug fs n).pt
  ins : ∀ f ∈ fs, Inside f.rgn v
  box : ∀ x ∈ n.heads ++ ctxH fs n.b, x.1.sh = sh
  all : (plug fs n).pt.all.Perm n0.pt.all
  len : (plug fs n).heads.length = n0.heads.length
  b : (plug fs n).b = n0.b

theorem Way.start {sh : Int} {ub u : H} {d : Int} {v : List Int} {O W : Nat → Prop} {n : PN} (base : ub.le u) (known : ∀ c, ub c ≠ none → O c) (one : ∀ x ∈ n.heads, PhAt u x) (nodup : n.own.Nodup) (out : ∀ c ∈ n.own, ub c = none ∧ u c ≠ none ∧ O c)
    (vec : ∀ x ∈ n.heads, ∀ r ∈ x.1.rows, Ints ub r.s r.v ∧ ∀ g, r.s.blk = some g → W g) (ok : PtOk d n.pt) (hsh : PtSh sh n.pt) : Way sh ub u d v O W n [] n := by
  have e : n.heads ++ ctxH [] n.b = n.heads := by rw [ctxH, List.append_nil]
  exact ⟨base, by rw [e]; exact one, by rw [e]; exact nodup, by rw [e]; exact out, known, by rw [e]; exact vec, ok, fun f hf => (by cases hf), by rw [e]; exact n.shp' hsh, .refl _, rfl, rfl⟩

/-- Into a kid. -/
theorem Way.kid {sh : Int} {ub u : H} {d : Int} {v : List Int} {O W : Nat → Prop} {n0 : PN} {fs : List Hol} {h : PH} {pre post : List PN} {k : PN} (w : Way sh ub u d v O W n0 fs (.mk h (pre ++ k :: post))) (hi : Inside (Hol.rgn ⟨h, pre, post⟩) v) : Way sh ub u d v O W n0 (⟨h, pre, post⟩ :: fs) k := by
  have hp : ((PN.mk h (pre ++ k :: post)).heads ++ ctxH fs h.b).Perm (k.heads ++ ctxH (⟨h, pre, post⟩ :: fs) k.b) := by
    rw [ctxH, ← List.append_assoc]
    exact (fill_heads ⟨h, pre, post⟩ k).append_right _
  exact ⟨w.base, fun x hx => w.one x (hp.mem_iff.2 hx), (hp.flatMap_right _).nodup_iff.1 w.nodup, fun c hc => w.out c ((hp.flatMap_right _).mem_iff.2 hc), w.known, fun x hx => w.vec x (hp.mem_iff.2 hx), w.ok, fun f hf => by
    rcases List.mem_cons.1 hf with rfl | hf
    · exact hi
    · exact w.ins f hf, fun x hx => w.box x (hp.mem_iff.2 hx), w.all, w.len, w.b⟩

theorem Way.head {sh : Int} {ub u : H} {d : Int} {v : List Int} {O W : Nat → Prop} {n0 : PN} {fs : List Hol} {h : PH} {ks : List PN} (w : Way sh ub u d v O W n0 fs (.mk h ks)) :
    PhAt u (h, ks.map PN.b) ∧ h.blks.Nodup ∧ (∀ c ∈ h.blks, ub c = none ∧ u c ≠ none ∧ O c) ∧ (∀ r ∈ h.rows, Ints ub r.s r.v ∧ ∀ g, r.s.blk = some g → W g) ∧ h.sh = sh := by
  have hm : (h, ks.map PN.b) ∈ (PN.mk h ks).heads ++ ctxH fs (PN.mk h ks).b := by rw [PN.heads]; exact List.mem_append_left _ (List.mem_cons_self ..)
  have hn := w.nodup
  rw [PN.heads, List.cons_append, List.flatMap_cons, List.nodup_append] at hn
  exact ⟨w.one _ hm, hn.1, fun c hc => w.out c (List.mem_flatMap.2 ⟨_, hm, hc⟩), w.vec _ hm, w.box _ hm⟩

/-- What stands at the place is another, and what lies elsewhere is as it was. -/
theorem Way.else {sh : Int} {ub u u' : H} {d : Int} {v : List Int} {O W : Nat → Prop} {n0 : PN} {fs : List Hol} {n : PN} (w : Way sh ub u d v O W n0 fs n) (hel : ∀ c o, u c = some o → O c → c ∉ n.own → u' c = some o) :
    ub.le u' ∧ (∀ x ∈ ctxH fs n.b, PhAt u' x) ∧ (∀ c ∈ (ctxH fs n.b).flatMap (fun x => x.1.blks), (ub c = none ∧ O c) ∧ u' c ≠ none ∧ c ∉ n.own) ∧ ((ctxH fs n.b).flatMap fun x => x.1.blks).Nodup := by
  have hn := w.nodup
  rw [List.flatMap_append, List.nodup_append] at hn
  obtain ⟨_, h2, h3⟩ := hn
  have ho : ∀ c ∈ n.own, ub c = none := fun c hc => (w.out c (by rw [List.flatMap_append]; exact List.mem_append_left _ hc)).1
  have hb : ub.le u' := fun c o hc => hel c o (w.base c o hc) (w.known c (by rw [hc]; simp)) fun hm => by rw [ho c hm] at hc; cases hc
  have hf : ∀ c ∈ (ctxH fs n.b).flatMap (fun x => x.1.blks), c ∉ n.own := fun c hc hm => h3 c hm c hc rfl
  refine ⟨hb, fun x hx => (w.one x (List.mem_append_right _ hx)).keep (fun c o hc ho => hel c o ho (w.out c (by rw [List.flatMap_append]; exact List.mem_append_right _ (List.mem_flatMap.2 ⟨x, hx, hc⟩))).2.2 (hf c (List.mem_flatMap.2 ⟨x, hx, hc⟩))) fun r hr => ((w.vec x (List.mem_append_right _ hx) r hr).1).mono hb, fun c hc => ?_, h2⟩
  obtain ⟨q2, q3, q4⟩ := w.out c (by rw [List.flatMap_append]; exact List.mem_append_right _ hc)
  obtain ⟨o, ho'⟩ := Option.ne_none_iff_exists'.1 q3
  exact ⟨⟨q2, q4⟩, by rw [hel c o ho' q4 (hf c hc)]; simp, hf c hc⟩

/-- The part has another region. -/
theorem Way.turn {sh : Int} {ub u u' : H} {d : Int} {v : List Int} {O W : Nat → Prop} {n0 : PN} {fs : List Hol} {h h' : PH} {ks : List PN} (w : Way sh ub u d v O W n0 fs (.mk h ks)) (hb : h'.blks = h.blks) (hr : h'.rows = h.rows) (hs : h'.sh = h.sh)
    (hph : PhAt u' (h', ks.map PN.b)) (hel : ∀ c o, u c = some o → c ∉ h.blks → u' c = some o) (hkn : ∀ c, u c ≠ none → u' c ≠ none) (hok : PtOk d (PN.mk h' ks).pt) : Way sh ub u' d v O W n0 fs (.mk h' ks) := by
  have hbb : h'.b = h.b := (List.cons.inj hb).1
  have hn := w.nodup
  rw [PN.heads, List.cons_append, List.flatMap_cons] at hn
  have hn2 := (List.nodup_append.1 hn).2.2
  have sub : ∀ x ∈ PN.headsL ks ++ ctxH fs h.b, x ∈ (PN.mk h ks).heads ++ ctxH fs (PN.mk h ks).b := fun x hx => by rw [PN.heads, List.cons_append]; exact List.mem_cons_of_mem _ hx
  have far : ∀ x ∈ PN.headsL ks ++ ctxH fs h.b, ∀ c ∈ x.1.blks, c ∉ h.blks := fun x hx c hc hm => hn2 c hm c (List.mem_flatMap.2 ⟨x, hx, hc⟩) rfl
  have ho : ∀ c ∈ h.blks, ub c = none := fun c hc => (w.head.2.2.1 c hc).1
  have hbase : ub.le u' := fun c o hc => hel c o (w.base c o hc) fun hm => by rw [ho c hm] at hc; cases hc
  have memC : ∀ x, x ∈ (PN.mk h' ks).heads ++ ctxH fs (PN.mk h' ks).b → x = (h', ks.map PN.b) ∨ x ∈ PN.headsL ks ++ ctxH fs h.b := fun x hx => by
    rw [PN.heads, List.cons_append, show (PN.mk h' ks).b = h.b from hbb] at hx
    exact List.mem_cons.1 hx
  have flE : ((PN.mk h' ks).heads ++ ctxH fs (PN.mk h' ks).b).flatMap (fun x => x.1.blks) = ((PN.mk h ks).heads ++ ctxH fs (PN.mk h ks).b).flatMap (fun x => x.1.blks) := by
    rw [PN.heads, PN.heads, List.cons_append, List.cons_append, List.flatMap_cons, List.flatMap_cons, show (PN.mk h' ks).b = h.b from hbb, show (PN.mk h ks).b = h.b from rfl]
    show h'.blks ++ _ = h.blks ++ _
    rw [hb]
  have hall : (PN.mk h' ks).pt.all = (PN.mk h ks).pt.all := by
    rw [PN.pt_all, PN.pt_all, PN.heads, PN.heads, List.flatMap_cons, List.flatMap_cons]
    show h'.rows.map Rw.pr ++ _ = h.rows.map Rw.pr ++ _
    rw [hr]
  refine ⟨hbase, fun x hx => ?_, by rw [flE]; exact w.nodup, fun c hc => ?_, w.known, fun x hx => ?_, plug_ok fs w.ok hok fun x hx => .inl (by rw [← hall]; exact hx), w.ins, fun x hx => ?_, ?_, ?_, ?_⟩
  · rcases memC x hx with rfl | hx
    · exact hph
    · exact (w.one x (sub x hx)).keep (fun c o hc ho' => hel c o ho' (far x hx c hc)) fun r hr' => ((w.vec x (sub x hx) r hr').1).mono hbase
  · rw [flE] at hc
    obtain ⟨q2, q3, q4⟩ := w.out c hc
    exact ⟨q2, hkn c q3, q4⟩
  · rcases memC x hx with rfl | hx
    · intro r hr'
      exact w.head.2.2.2.1 r (by rw [← hr]; exact hr')
    · exact w.vec x (sub x hx)
  · rcases memC x hx with rfl | hx
    · exact hs.trans w.head.2.2.2.2
    · exact w.box x (sub x hx)
  · refine (plug_all fs _).trans (.trans ?_ ((plug_all fs (.mk h ks)).symm.trans w.all))
    rw [hall, show (PN.mk h' ks).b = h.b from hbb, show (PN.mk h ks).b = h.b from rfl]
  · rw [(plug_heads fs _).length_eq, ← w.len, (plug_heads fs (.mk h ks)).length_eq, show (PN.mk h' ks).b = h.b from hbb, show (PN.mk h ks).b = h.b from rfl]
    simp [PN.heads]
  · rw [← w.b]
    exact plug_b fs hbb

/-- The tree when another part stands at the place, with the row in it. -/
structure Down (sh : Int) (ub u' : H) (d : Int) (e : Prw) (O : Nat → Prop) (W : Rw → Prop) (n0 r : PN) (more : Nat) : Prop where
  one : ∀ x ∈ r.heads, PhAt u' x
  nodup : r.own.Nodup
  own : ∀ c ∈ r.own, (ub c = none ∧ O c) ∧ u' c ≠ none
  rws : ∀ x ∈ r.heads, ∀ y ∈ x.1.rows, W y
  all : r.pt.all.Perm (e :: n0.pt.all)
  ok : PtOk d r.pt
  shp : PtSh sh r.pt
  size : r.heads.length ≤ n0.heads.length + more
  b : r.b = n0.b
  le : ub.le u'

theorem Way.down {sh : Int} {ub u u' : H} {d : Int} {v : List Int} {O W : Nat → Prop} {n0 : PN} {fs : List Hol} {n n' : PN} {id : Int} {more : Nat} {W' : Rw → Prop} (w : Way sh ub u d v O W n0 fs n) (hb : n'.b = n.b) (hone : ∀ x ∈ n'.heads, PhAt u' x) (hnd : n'.own.Nodup)
    (hel : ∀ c o, u c = some o → O c → c ∉ n.own → u' c = some o) (hnew : ∀ c ∈ n'.own, (c ∈ n.own ∨ (u c = none ∧ O c)) ∧ u' c ≠ none) (hW : ∀ x ∈ n'.heads, ∀ y ∈ x.1.rows, W' y) (hW2 : ∀ y : Rw, (∀ g, y.s.blk = some g → W g) → W' y)
    (hall : n'.pt.all.Perm ((id, v) :: n.pt.all)) (hok : PtOk d n'.pt) (hsh : PtSh sh n'.pt) (hm : n'.heads.length ≤ n.heads.length + more) : Down sh ub u' d (id, v) O W' n0 (plug fs n') more := by
  obtain ⟨h1, h2, h3, h4⟩ := w.else hel
  have hp := plug_heads fs n'
  have hp0 := plug_heads fs n
  have hpo := plug_own fs n'
  rw [hb] at hp hpo
  have inN : ∀ c ∈ n.own, ub c = none ∧ O c := fun c hc => (fun z => ⟨z.1, z.2.2⟩) (w.out c (by rw [List.flatMap_append]; exact List.mem_append_left _ hc))
  have ctxk : ∀ c ∈ (ctxH fs n.b).flatMap (fun x => x.1.blks), u c ≠ none := fun c hc => (w.out c (by rw [List.flatMap_append]; exact List.mem_append_right _ hc)).2.1
  refine ⟨fun x hx => ?_, ?_, fun c hc => ?_, fun x hx => ?_, ?_, plug_ok fs w.ok hok fun x hx => ?_, PN.shp _ fun x hx => ?_, ?_, (plug_b fs hb).trans w.b, h1⟩
  · rcases List.mem_append.1 (hp.mem_iff.1 hx) with hx | hx
    · exact hone x hx
    · exact h2 x hx
  · rw [hpo.nodup_iff, List.nodup_append]
    refine ⟨hnd, h4, fun c hc c' hc' e => ?_⟩
    subst e
    rcases (hnew c hc).1 with h | h
    · exact (h3 c hc').2.2 h
    · exact ctxk c hc' h.1
  · rcases List.mem_append.1 (hpo.mem_iff.1 hc) with hc | hc
    · obtain ⟨q1, q2⟩ := hnew c hc
      exact ⟨q1.elim (inN c) fun h => ⟨w.base.none h.1, h.2⟩, q2⟩
    · obtain ⟨q1, q3, _⟩ := h3 c hc
      exact ⟨q1, q3⟩
  · rcases List.mem_append.1 (hp.mem_iff.1 hx) with hx | hx
    · exact hW x hx
    · exact fun y hy => hW2 y (w.vec x (List.mem_append_right _ hx) y hy).2
  · have e1 := plug_all fs n'
    have e2 := (plug_all fs n).symm.trans w.all
    rw [hb] at e1
    exact e1.trans ((hall.append_right _).trans (List.Perm.cons _ e2))
  · rcases List.mem_cons.1 (hall.mem_iff.1 hx) with rfl | hx
    · exact .inr w.ins
    · exact .inl hx
  · rcases List.mem_append.1 (hp.mem_iff.1 hx) with hx | hx
    · exact n'.shp' hsh x hx
    · exact w.box x (List.mem_append_right _ hx)
  · rw [← w.len, hp.length_eq, hp0.length_eq, List.length_append, List.length_append]
    omega

end Go.Proofs.YtbohcdjoglidhaaGreatDoor

/- VcPn4 -/
namespace Go.Proofs.YtbohcdjoglidhaaGreatDoor

inductive PtBin : Pt → Prop where
  | mk {p : Pt} (two : p.kids.length = 0 ∨ p.kids.length = 2) (kids : ∀ k ∈ p.kids, PtBin k) : PtBin p
theorem PtBin.two {p : Pt} (h : PtBin p) : p.kids.length = 0 ∨ p.kids.length = 2 := by cases h; assumption
theorem PtBin.kids {p : Pt} (h : PtBin p) : ∀ k ∈ p.kids, PtBin k := by cases h; assumption
theorem PtBin.del {id : Int} {p : Pt} (h : PtBin p) : PtBin (p.del id) := by
  induction p using Pt.ind with
  | h p ih =>
    rw [Pt.del_eq]
    have h1 : (p.kids.map (Pt.del id)).length = 0 ∨ (p.kids.map (Pt.del id)).length = 2 := by rw [List.length_map]; exact h.two
    refine .mk h1 fun k hk => ?_
    obtain ⟨k', hk', rfl⟩ := List.mem_map.1 (show k ∈ p.kids.map (Pt.del id) from hk)
    exact ih k' hk' (h.kids k' hk')

theorem fill_bin {f : Hol} {n n' : PN} (h : PtBin (f.fill n).pt) (h' : PtBin n'.pt) : PtBin (f.fill n').pt := by
  have h1 := h.two
  have h2 := h.kids
  rw [fill_kids] at h1 h2
  refine .mk ?_ fun k hk => ?_
  · rw [fill_kids]
    simp only [List.length_map, List.length_append, List.length_cons] at h1 ⊢
    exact h1
  · rw [fill_kids] at hk
    obtain ⟨z, hz, rfl⟩ := List.mem_map.1 hk
    rw [List.mem_append, List.mem_cons] at hz
    rcases hz with hz | rfl | hz
    · exact h2 _ (List.mem_map_of_mem (List.mem_append_left _ hz))
    · exact h'
    · exact h2 _ (List.mem_map_of_mem (List.mem_append_right _ (List.mem_cons_of_mem _ hz)))

theorem bin_sub : ∀ (fs : List Hol) {n : PN}, PtBin (plug fs n).pt → PtBin n.pt
  | [], _, h => h
  | f :: fs, n, h => by
    have h3 := (bin_sub fs (n := f.fill n) h).kids
    rw [fill_kids] at h3
    exact h3 _ (List.mem_map_of_mem (by simp))

theorem plug_bin : ∀ (fs : List Hol) {n n' : PN}, PtBin (plug fs n).pt → PtBin n'.pt → PtBin (plug fs n').pt
  | [], _, _, _, h' => h'
  | f :: fs, n, n', h, h' => plug_bin fs (n := f.fill n) (n' := f.fill n') h (fill_bin (bin_sub fs (n := f.fill n) h) h')

theorem bin_node {h : PH} {ks : List PN} (h' : PtBin (PN.mk h ks).pt) : (ks.length = 0 ∨ ks.length = 2) ∧ ∀ k ∈ ks, PtBin k.pt := by
  rw [PN.pt_eq] at h'
  have h1 := h'.two
  have h2 := h'.kids
  refine ⟨by have h3 : (ks.map PN.pt).length = 0 ∨ (ks.map PN.pt).length = 2 := h1; rw [List.length_map] at h3; exact h3, fun k hk => h2 k.pt (show k.pt ∈ ks.map PN.pt from List.mem_map_of_mem hk)⟩

theorem bin_of {h : PH} {ks : List PN} (h1 : ks.length = 0 ∨ ks.length = 2) (h2 : ∀ k ∈ ks, PtBin k.pt) : PtBin (PN.mk h ks).pt := by
  rw [PN.pt_eq]
  refine .mk (by show (ks.map PN.pt).length = 0 ∨ (ks.map PN.pt).length = 2; rw [List.length_map]; exact h1) fun k hk => ?_
  obtain ⟨z, hz, rfl⟩ := List.mem_map.1 (show k ∈ ks.map PN.pt from hk)
  exact h2 z hz

end Go.Proofs.YtbohcdjoglidhaaGreatDoor

/- VcSort2 -/
namespace Go.Proofs.YtbohcdjoglidhaaGreatDoor
open Go.Shelf Go.RowKit Go.Sort

theorem flatK_list {α : Type} [Inhabited α] {enc : α → List Value} {k : Nat} (hk0 : 0 < k) (hk : ∀ x, (enc x).length = k) (d : Array α) : (flatK enc k d).toList = d.toList.flatMap enc := by
  apply List.ext_getElem?
  intro i
  rcases Nat.lt_or_ge i (d.size * k) with hi | hi
  · have e : i = i / k * k + i % k := by rw [Nat.mul_comm]; exact (Nat.div_add_mod i k).symm
    have hd : i / k < d.size := Nat.div_lt_of_lt_mul (by rw [Nat.mul_comm]; exact hi)
    have hr : i % k < k := Nat.mod_lt _ hk0
    have hf := flat_get hk d.toList (i / k) (i % k) hr
    rw [← e] at hf
    rw [hf]
    have : (flatK enc k d).toList[i]? = some ((flatK enc k d)[i]!) := by
      rw [Array.getElem?_toList, getElem!_pos _ i (by simpa using hi), Array.getElem?_eq_getElem (by simpa using hi)]
    rw [this, get_flatK _ _ _ _ hi]
    simp [hd]
    have h2 : i % k < (enc d[i / k]).length := by rw [hk]; exact hr
    rw [List.getElem?_eq_getElem h2]
    rfl
  · rw [List.getElem?_eq_none (by simpa using hi), List.getElem?_eq_none (by rw [flat_len hk]; simpa using hi)]

theorem sorted_list {α : Type} [Inhabited α] {cf : α → α → Int} {d : Array α} (hs : SortedIn (ltOf cf) 0 d.size d) : d.toList.Pairwise fun a b => ¬ cf b a < 0 := by
  refine List.pairwise_iff_getElem.2 fun i j hi hj hij => ?_
  have := hs i j (Nat.zero_le _) hij (by simpa using hj)
  simp only [Array.length_toList] at hi hj
  rw [getElem!_pos d j hj, getElem!_pos d i hi] at this
  unfold ltOf at this
  simpa using this

/-- slices.SortFunc, of rows, by whatever comparison that is pure. -/
theorem spec.slices_SortFunc__api_Row_ {α : Type} [Inhabited α] (val : α → Rw) {g : FuncId} {cf : α → α → Int} (hO : SWO (ltOf cf)) (eg : ∀ args w, (callFunc g args).run Tryz.prog w = .ok (.enter g args) w)
    (hcf : ∀ a b (u : H), ClT Tryz.prog g #[.agg (encR (val a)).toArray, .agg (encR (val b)).toArray] [.one (.int .i64)] u fun z' u' => z' = cf a b ∧ u' = u)
    {u0 u : H} {s : Sl} {l : List α} (ho : OwnF u0 u 24 2 s ((l.map val).flatMap encR)) (hsm : l.length < 4611686018427387904) {K : H → Prop}
    (hK : ∀ (u' : H) (l' : List α), l'.Perm l → (l'.Pairwise fun a b => ¬ cf b a < 0) → OwnF u0 u' 24 2 s ((l'.map val).flatMap encR) → Else u u' s → K u') : C.slices_SortFunc__api_Row_ s (.func (.func g) #[] #[]) u K := by
  intro w hw
  have hsn : s.n = l.length := by have := flat_n encR_len (by decide) ho.own.seg; simpa using this
  rcases ho.own.is with h0 | ⟨b, cur, ha, hg, hle, hc, hs, ht⟩
  · subst h0
    have hl : l = [] := by
      have : l.length = 0 := hsn.symm
      exact List.eq_nil_of_length_eq_zero this
    subst hl
    refine (AnyF.slices_SortFunc_none Tryz.sortRows none 0 _ w).mono ?_
    rintro e w' ⟨rfl, rfl⟩
    exact ⟨_, u, rfl, ⟨[], .nil, rfl, hK u [] (List.Perm.refl _) List.Pairwise.nil ho (Else.refl _ _)⟩, Step.refl hw⟩
  have hflat : ∀ m : List α, (m.map val).flatMap encR = m.flatMap fun x => encR (val x) := fun m => by rw [List.flatMap_map]
  have hH : HoldsK (fun x => encR (val x)) 2 w b 0 l.toArray := by
    intro j hj
    simp only [size_flatK, List.size_toArray] at hj
    have hl : ((l.map val).flatMap encR)[j]? = some ((flatK (fun x => encR (val x)) 2 l.toArray)[j]!) := by
      have := flatK_list (k := 2) (enc := fun x => encR (val x)) (by decide) (fun x => encR_len _) l.toArray
      simp only [] at this
      rw [hflat, ← this, Array.getElem?_toList, getElem!_pos _ j (by simpa using hj), Array.getElem?_eq_getElem (by simpa using hj)]
    constructor
    · rcases ho.own.seg.at' with h1 | ⟨p, hp, hcell⟩
      · rw [h1] at hl; simp at hl
      · rw [ha] at hp; cases hp
        have := hw.cell (hcell j _ hl)
        rw [Addr.add_lit, Nat.zero_add] at this
        simpa using this
    · simp [World.frozen?, hw _ _ hg]
  have hcall := AnyQ.slices_SortFunc Tryz.sortRows 2 (fun w => by kernel_rfl) (fun w => by kernel_rfl) (fun x => encR (val x)) (fun x => encR_len _) (fun x => encR_one _) cf hO g #[] b 0 s.c l.toArray w eg
    (fun m os dk _ x y => by
      have := grown_of_pure (hcf x y) (sortWorldK (fun x => encR (val x)) 2 w b 0 m dk os)
      simpa using this) hH (hw.lt hg) (by simpa using hsm)
  simp only [List.size_toArray] at hcall
  change Calls Tryz.prog 36 _ _ _ at hcall
  rw [ha, hsn]
  refine hcall.mono ?_
  rintro e w' ⟨rfl, d', n, os, ⟨hp1, _, hp3⟩, hsrt, rfl⟩
  simp only [List.size_toArray] at hp1
  have hperm : d'.toList.Perm l := by
    have e1 : d'.extract 0 l.length = d' := by rw [← hp1]; simp
    have e2 : l.toArray.extract 0 l.length = l.toArray := by simp
    rw [e1, e2] at hp3
    simpa using hp3
  obtain ⟨ho', he⟩ := ho.resort ha hg (F := flatK (fun x => encR (val x)) 2 d') (by rw [size_flatK, hp1, hsn])
  rw [flatK_list (by decide) (fun x => encR_len _), ← hflat] at ho'
  exact ⟨_, _, rfl, ⟨[], .nil, rfl, hK _ d'.toList hperm (sorted_list (by rw [hp1]; exact hsrt)) ho' he⟩, step_sorted hw hg n _ os⟩

end Go.Proofs.YtbohcdjoglidhaaGreatDoor

/- VcStab -/
namespace Go.Proofs.YtbohcdjoglidhaaGreatDoor

/-- A slice's rows, mixed; all else as it was. -/
def PermS (u0 u : H) (s : Sl) (l : List Rw) (v : H) : Prop := Else u v s ∧ ∃ m : List Rw, m.Perm l ∧ OwnF u0 v 24 2 s (m.flatMap encR)

/-- A comparison that looks alone. -/
def CmpOk (ub : H) (l : List Rw) (fv : Value) : Prop := ∀ (a b : Rw) (v : H) (K : Int → H → Prop), a ∈ l → b ∈ l → ub.le v → (∀ z, K z v) → ClV Tryz.prog fv #[.agg #[.int .i64 a.id, .slice a.s.a a.s.n a.s.c], .agg #[.int .i64 b.id, .slice b.s.a b.s.n b.s.c]] [.one (.int .i64)] v K

theorem PermS.base {u0 u ub v : H} {s : Sl} {l : List Rw} (h : PermS u0 u s l v) (hub : ub.le u) (hbs : ∀ b, s.blk = some b → ub b = none) : ub.le v := fun c o hc => h.1 c o (hub c o hc) fun e => by rw [hbs c e] at hc; cases hc

theorem PermS.len {u0 u v : H} {s : Sl} {l : List Rw} (h : PermS u0 u s l v) : s.n = l.length := by
  obtain ⟨_, m, hp, ho⟩ := h
  have := flat_n encR_len (by decide) ho.own.seg
  rw [hp.length_eq] at this
  exact this

/-- Two of them are read. -/
theorem PermS.at2 {u0 u v : H} {s : Sl} {l : List Rw} (h : PermS u0 u s l v) {x y : Int} (x0 : 0 ≤ x) (x1 : x < s.n) (y0 : 0 ≤ y) (y1 : y < s.n) : ∃ p, s.a = some p ∧ ∃ a b : Rw, a ∈ l ∧ b ∈ l ∧
    v.cell? (p.add (x.toNat * 2)) = some (.int .i64 a.id) ∧ v.cell? ((p.add (x.toNat * 2)).add 1) = some (.slice a.s.a a.s.n a.s.c) ∧ v.cell? (p.add (y.toNat * 2)) = some (.int .i64 b.id) ∧ v.cell? ((p.add (y.toNat * 2)).add 1) = some (.slice b.s.a b.s.n b.s.c) ∧
    ∀ f g : H → Prop, (∀ v', PermS u0 u s l v' → f v') → (∀ v1, H.St v1 (p.add (y.toNat * 2)) [.int .i64 a.id, .slice a.s.a a.s.n a.s.c] f → g v1) → H.St v (p.add (x.toNat * 2)) [.int .i64 b.id, .slice b.s.a b.s.n b.s.c] g := by
  have hsn := h.len
  obtain ⟨he, m, hp, ho⟩ := h
  have hml := hp.length_eq
  have hx : x.toNat < m.length := by omega
  have hy : y.toNat < m.length := by omega
  obtain ⟨p, hpp, hc⟩ := Seg.elem encR_len (by decide) ho.own.seg (List.getElem?_eq_getElem hx)
  obtain ⟨p', hpp', hd⟩ := Seg.elem encR_len (by decide) ho.own.seg (List.getElem?_eq_getElem hy)
  obtain rfl : p' = p := by rw [hpp] at hpp'; exact (Option.some.inj hpp').symm
  have hc0 := hc 0 _ rfl
  have hd0 := hd 0 _ rfl
  rw [Addr.add_zero'] at hc0 hd0
  refine ⟨p', hpp, m[x.toNat], m[y.toNat], hp.mem_iff.1 (List.getElem_mem hx), hp.mem_iff.1 (List.getElem_mem hy), hc0, hc 1 _ rfl, hd0, hd 1 _ rfl, fun f g hf hg => ?_⟩
  refine OwnF.store (enc := encR) encR_len ho (by decide) (i := x.toNat) hx (y := m[y.toNat]) (by simp [encR, Value.oneCell']) hpp fun v1 ho1 he1 _ => hg v1 ?_
  refine OwnF.store (enc := encR) encR_len ho1 (by decide) (i := y.toNat) (by rw [List.length_set]; exact hy) (y := m[x.toNat]) (by simp [encR, Value.oneCell']) hpp fun v2 ho2 he2 _ => hf v2 ⟨fun c o hc hne => he2 c o (he1 c o (he c o hc hne) hne) hne, _, ?_, ho2⟩
  refine List.Perm.trans ?_ hp
  rw [← swapL_eq hx hy]
  exact swapL_perm hx hy

theorem mid_eq {x y : Int} (hx : 0 ≤ x) (hy : 0 ≤ y) (h : x + y ≤ 4000000000) : IntKind.i64.wrap (Int.fdiv (IntKind.u64.wrap (x + y)) (2 ^ 1)) = (x + y) / 2 := by
  have e1 : IntKind.u64.wrap (x + y) = x + y := by
    show (x + y) % 18446744073709551616 = x + y
    omega
  rw [e1, Int.fdiv_eq_ediv_of_nonneg _ (by decide)]
  exact IntWalk.i64_in _ (by omega)

theorem spec.swapRange {u0 u v : H} {s : Sl} {l : List Rw} {a b n : Int} {fv : Value} {K : H → Prop} (h : PermS u0 u s l v) (hsm : l.length ≤ 1000000) (a0 : 0 ≤ a) (b0 : 0 ≤ b) (ha : a + n ≤ s.n) (hb : b + n ≤ s.n) (hK : ∀ v', PermS u0 u s l v' → K v') : C.slices_swapRangeCmpFunc_api_Row_ s a b n fv v K := by
  have hsn := h.len
  apply vc.slices_swapRangeCmpFunc_api_Row_
  refine ⟨fun i w => 0 ≤ i ∧ PermS u0 u s l w, fun i _ => (n - i).toNat, ⟨by omega, h⟩, ?_⟩
  rintro i w ⟨i0, hw⟩
  refine ⟨fun hi => ?_, fun _ => hK w hw⟩
  obtain ⟨p, hp, x, y, _, _, c0, c1, d0, d1, hst⟩ := hw.at2 (x := a + i) (y := b + i) (by omega) (by omega) (by omega) (by omega)
  refine ⟨⟨by omega, by omega⟩, ⟨by omega, by omega⟩, ⟨by omega, by omega⟩, p, hp, ⟨by omega, by omega⟩, ⟨by omega, by omega⟩, p, hp, ⟨by omega, by omega⟩, _, d0, _, d1, _, c0, _, c1, p, hp, ⟨by omega, by omega⟩, ?_⟩
  exact hst _ _ (fun v' hv' => ⟨⟨by omega, by omega⟩, ⟨by omega, hv'⟩, by dsimp only; omega⟩) fun v1 h1 => ⟨p, hp, ⟨by omega, by omega⟩, h1⟩

theorem spec.rotateR {u0 u v : H} {s : Sl} {l : List Rw} {a m b : Int} {fv : Value} {K : H → Prop} (h : PermS u0 u s l v) (hsm : l.length ≤ 1000000) (a0 : 0 ≤ a) (ham : a < m) (hmb : m < b) (hb : b ≤ s.n) (hK : ∀ v', PermS u0 u s l v' → K v') : C.slices_rotateCmpFunc_api_Row_ s a m b fv v K := by
  have hsn := h.len
  apply vc.slices_rotateCmpFunc_api_Row_
  refine ⟨⟨by omega, by omega⟩, ⟨by omega, by omega⟩, fun i j w => 0 < i ∧ i ≤ m - a ∧ 0 < j ∧ j ≤ b - m ∧ PermS u0 u s l w, fun i j _ => (i + j).toNat, ⟨by omega, by omega, by omega, by omega, h⟩, ?_⟩
  rintro i j w ⟨i0, i1, j0, j1, hw⟩
  refine ⟨fun hne => ⟨fun hlt => ⟨⟨by omega, by omega⟩, ?_⟩, fun hlt => ⟨⟨by omega, by omega⟩, ⟨by omega, by omega⟩, ⟨by omega, by omega⟩, ?_⟩⟩, fun he => ⟨⟨by omega, by omega⟩, ?_⟩⟩
  · exact spec.swapRange hw hsm (by omega) (by omega) (by omega) (by omega) fun v' hv' => ⟨⟨by omega, by omega⟩, ⟨by omega, by omega, by omega, by omega, hv'⟩, by dsimp only; omega⟩
  · exact spec.swapRange hw hsm (by omega) (by omega) (by omega) (by omega) fun v' hv' => ⟨⟨by omega, by omega⟩, ⟨by omega, by omega, by omega, by omega, hv'⟩, by dsimp only; omega⟩
  · exact spec.swapRange hw hsm (by omega) (by omega) (by omega) (by omega) hK

theorem spec.insSort {ub u0 u v : H} {s : Sl} {l : List Rw} {a b : Int} {fv : Value} {K : H → Prop} (hub : ub.le u) (hbs : ∀ b, s.blk = some b → ub b = none) (hc : CmpOk ub l fv) (h : PermS u0 u s l v) (hsm : l.length ≤ 1000000) (a0 : 0 ≤ a) (ha1 : a ≤ 2000000) (hb : b ≤ s.n) (hK : ∀ v', PermS u0 u s l v' → K v') : C.slices_insertionSortCmpFunc_api_Row_ s a b fv v K := by
  have hsn := h.len
  apply vc.slices_insertionSortCmpFunc_api_Row_
  refine ⟨⟨by omega, by omega⟩, fun i w => a < i ∧ PermS u0 u s l w, fun i _ => (b - i).toNat, ⟨by omega, h⟩, ?_⟩
  rintro i w ⟨i0, hw⟩
  refine ⟨fun hi => ?_, fun _ => hK w hw⟩
  refine ⟨fun j w => a ≤ j ∧ j ≤ i ∧ PermS u0 u s l w, fun j _ => (j - a).toNat, ⟨by omega, by omega, hw⟩, ?_⟩
  rintro j w ⟨j0, j1, hw⟩
  intro K8 h8
  have next : ∀ {z : H}, PermS u0 u s l z → InR (i + 1) ∧ (a < i + 1 ∧ PermS u0 u s l z) ∧ (b - (i + 1)).toNat < (b - i).toNat := fun hz => ⟨⟨by omega, by omega⟩, ⟨by omega, hz⟩, by omega⟩
  refine ⟨fun hj => ?_, fun _ => next hw⟩
  obtain ⟨p, hp, x, y, hx, hy, c0, c1, d0, d1, hst⟩ := hw.at2 (x := j) (y := j - 1) (by omega) (by omega) (by omega) (by omega)
  refine ⟨p, hp, ⟨by omega, by omega⟩, ⟨by omega, by omega⟩, p, hp, ⟨by omega, by omega⟩, _, c0, _, c1, _, d0, _, d1, ?_⟩
  refine hc x y w _ hx hy (hw.base hub hbs) fun z => ⟨fun _ => h8 _ ?_, fun _ => next hw⟩
  refine ⟨⟨by omega, by omega⟩, ⟨by omega, by omega⟩, p, hp, ⟨by omega, by omega⟩, p, hp, ⟨by omega, by omega⟩, _, d0, _, d1, _, c0, _, c1, p, hp, ⟨by omega, by omega⟩, ?_⟩
  exact hst _ _ (fun v' hv' => ⟨⟨by omega, by omega⟩, ⟨by omega, by omega, hv'⟩, by dsimp only; omega⟩) fun v1 h1 => ⟨p, hp, ⟨by omega, by omega⟩, h1⟩

theorem spec.symMerge {ub u0 u : H} {s : Sl} {l : List Rw} {fv : Value} (hub : ub.le u) (hbs : ∀ b, s.blk = some b → ub b = none) (hc : CmpOk ub l fv) (hsm : l.length ≤ 1000000) : ∀ (N : Nat) {a m b : Int} {v : H} {K : H → Prop}, b - a ≤ N → PermS u0 u s l v → 0 ≤ a → a < m → m < b → b ≤ s.n → (∀ v', PermS u0 u s l v' → K v') → C.slices_symMergeCmpFunc_api_Row_ s a m b fv v K := by
  intro N
  induction N with
  | zero => intro a m b v K hN h a0 ham hmb hb hK; omega
  | succ N ih =>
    intro a m b v K hN h a0 ham hmb hb hK
    have hsn := h.len
    apply vc.slices_symMergeCmpFunc_api_Row_
    refine ⟨⟨by omega, by omega⟩, fun h1 => ?_, fun h1 => ⟨⟨by omega, by omega⟩, fun h2 => ?_, fun h2 => ?_⟩⟩
    · refine ⟨fun i j w => m ≤ i ∧ i ≤ j ∧ j ≤ b ∧ PermS u0 u s l w, fun i j _ => (j - i).toNat, ⟨by omega, by omega, by omega, h⟩, ?_⟩
      rintro i j w ⟨i0, ij, j1, hw⟩
      refine ⟨fun hij => ⟨⟨by omega, by omega⟩, by decide, ?_⟩, fun hij => ?_⟩
      · rw [mid_eq (by omega) (by omega) (by omega)]
        obtain ⟨c, hcc⟩ : ∃ c, c = (i + j) / 2 := ⟨_, rfl⟩
        rw [← hcc]
        obtain ⟨p, hp, x, y, hx, hy, c0, c1, d0, d1, _⟩ := hw.at2 (x := c) (y := a) (by omega) (by omega) (by omega) (by omega)
        refine ⟨p, hp, ⟨by omega, by omega⟩, p, hp, ⟨by omega, by omega⟩, _, c0, _, c1, _, d0, _, d1, ?_⟩
        refine hc x y w _ hx hy (hw.base hub hbs) fun z => ⟨fun _ => ⟨⟨by omega, by omega⟩, ⟨by omega, by omega, by omega, hw⟩, by dsimp only; omega⟩, fun _ => ⟨⟨by omega, by omega, by omega, hw⟩, by dsimp only; omega⟩⟩
      · refine ⟨fun k w => a ≤ k ∧ PermS u0 u s l w, fun k _ => (i - k).toNat, ⟨by omega, hw⟩, ?_⟩
        rintro k w ⟨k0, hw⟩
        refine ⟨⟨by omega, by omega⟩, fun hk => ?_, fun _ => hK w hw⟩
        obtain ⟨p, hp, x, y, hx, hy, c0, c1, d0, d1, hst⟩ := hw.at2 (x := k) (y := k + 1) (by omega) (by omega) (by omega) (by omega)
        refine ⟨⟨by omega, by omega⟩, ⟨by omega, by omega⟩, p, hp, ⟨by omega, by omega⟩, p, hp, ⟨by omega, by omega⟩, _, d0, _, d1, _, c0, _, c1, p, hp, ⟨by omega, by omega⟩, ?_⟩
        exact hst _ _ (fun v' hv' => ⟨⟨by omega, by omega⟩, ⟨by omega, hv'⟩, by dsimp only; omega⟩) fun v1 h1 => ⟨p, hp, ⟨by omega, by omega⟩, h1⟩
    · refine ⟨fun i j w => a ≤ i ∧ i ≤ j ∧ j ≤ m ∧ PermS u0 u s l w, fun i j _ => (j - i).toNat, ⟨by omega, by omega, by omega, h⟩, ?_⟩
      rintro i j w ⟨i0, ij, j1, hw⟩
      refine ⟨fun hij => ⟨⟨by omega, by omega⟩, by decide, ?_⟩, fun hij => ?_⟩
      · rw [mid_eq (by omega) (by omega) (by omega)]
        obtain ⟨c, hcc⟩ : ∃ c, c = (i + j) / 2 := ⟨_, rfl⟩
        rw [← hcc]
        obtain ⟨p, hp, x, y, hx, hy, c0, c1, d0, d1, _⟩ := hw.at2 (x := m) (y := c) (by omega) (by omega) (by omega) (by omega)
        refine ⟨p, hp, ⟨by omega, by omega⟩, p, hp, ⟨by omega, by omega⟩, _, c0, _, c1, _, d0, _, d1, ?_⟩
        refine hc x y w _ hx hy (hw.base hub hbs) fun z => ⟨fun _ => ⟨⟨by omega, by omega⟩, ⟨by omega, by omega, by omega, hw⟩, by dsimp only; omega⟩, fun _ => ⟨⟨by omega, by omega, by omega, hw⟩, by dsimp only; omega⟩⟩
      · refine ⟨fun k w => k ≤ m ∧ PermS u0 u s l w, fun k _ => (k - i).toNat, ⟨by omega, hw⟩, ?_⟩
        rintro k w ⟨k0, hw⟩
        refine ⟨fun hk => ?_, fun _ => hK w hw⟩
        obtain ⟨p, hp, x, y, hx, hy, c0, c1, d0, d1, hst⟩ := hw.at2 (x := k) (y := k - 1) (by omega) (by omega) (by omega) (by omega)
        refine ⟨⟨by omega, by omega⟩, ⟨by omega, by omega⟩, p, hp, ⟨by omega, by omega⟩, p, hp, ⟨by omega, by omega⟩, _, d0, _, d1, _, c0, _, c1, p, hp, ⟨by omega, by omega⟩, ?_⟩
        exact hst _ _ (fun v' hv' => ⟨⟨by omega, by omega⟩, ⟨by omega, hv'⟩, by dsimp only; omega⟩) fun v1 h1 => ⟨p, hp, ⟨by omega, by omega⟩, h1⟩
    · rw [mid_eq (by omega) (by omega) (by omega)]
      obtain ⟨mid, hmid⟩ : ∃ mid, mid = (a + b) / 2 := ⟨_, rfl⟩
      rw [← hmid]
      refine ⟨⟨by omega, by omega⟩, by decide, ⟨by omega, by omega⟩, ?_⟩
      intro K54 h54
      have body : ∀ s0 r0 : Int, a ≤ s0 → s0 ≤ r0 → r0 ≤ m → r0 ≤ mid → mid + m - b ≤ s0 → (m ≤ mid ∨ mid = r0) → K54 s0 r0 v := by
        intro s0 r0 q1 q2 q3 q4 q5 q6
        refine h54 s0 r0 v ⟨⟨by omega, by omega⟩, fun i j w => s0 ≤ i ∧ i ≤ j ∧ j ≤ r0 ∧ PermS u0 u s l w, fun i j _ => (j - i).toNat, ⟨by omega, by omega, by omega, h⟩, ?_⟩
        rintro i j w ⟨i0, ij, j1, hw⟩
        refine ⟨fun hij => ⟨⟨by omega, by omega⟩, by decide, ?_⟩, fun hij => ⟨⟨by omega, by omega⟩, ?_⟩⟩
        · rw [mid_eq (by omega) (by omega) (by omega)]
          obtain ⟨c, hcc⟩ : ∃ c, c = (i + j) / 2 := ⟨_, rfl⟩
          rw [← hcc]
          obtain ⟨p, hp, x, y, hx, hy, c0, c1, d0, d1, _⟩ := hw.at2 (x := mid + m - 1 - c) (y := c) (by omega) (by omega) (by omega) (by omega)
          refine ⟨⟨by omega, by omega⟩, p, hp, ⟨by omega, by omega⟩, p, hp, ⟨by omega, by omega⟩, _, c0, _, c1, _, d0, _, d1, ?_⟩
          refine hc x y w _ hx hy (hw.base hub hbs) fun z => ⟨fun _ => ⟨⟨by omega, by omega⟩, ⟨by omega, by omega, by omega, hw⟩, by dsimp only; omega⟩, fun _ => ⟨⟨by omega, by omega, by omega, hw⟩, by dsimp only; omega⟩⟩
        · intro K71 h71
          have fin : ∀ z, PermS u0 u s l z → K71 z := by
            intro z hz
            refine h71 z ?_
            intro K73 h73
            have fin2 : ∀ z, PermS u0 u s l z → K73 z := by
              intro z hz
              refine h73 z ⟨fun e1 => ⟨fun e2 => ?_, fun _ => hK z hz⟩, fun _ => hK z hz⟩
              exact ih (by omega) hz (by omega) (by omega) (by omega) (by omega) hK
            refine ⟨fun e1 => ⟨fun e2 => ?_, fun _ => fin2 z hz⟩, fun _ => fin2 z hz⟩
            exact ih (by omega) hz (by omega) (by omega) (by omega) (by omega) fin2
          refine ⟨fun e1 => ⟨fun e2 => ?_, fun _ => fin w hw⟩, fun _ => fin w hw⟩
          exact spec.rotateR hw hsm (by omega) (by omega) (by omega) (by omega) fin
      refine ⟨fun hlt => ⟨⟨by omega, by omega⟩, body _ _ (by omega) (by omega) (by omega) (by omega) (by omega) (by omega)⟩, fun hge => body _ _ (by omega) (by omega) (by omega) (by omega) (by omega) (by omega)⟩

theorem spec.slices_SortStableFunc__api_Row_ {ub u0 u : H} {s : Sl} {l : List Rw} {fv : Value} {K : H → Prop} (ho : OwnF u0 u 24 2 s (l.flatMap encR)) (hub : ub.le u) (hbs : ∀ b, s.blk = some b → ub b = none) (hc : CmpOk ub l fv) (hsm : l.length ≤ 1000000)
    (hK : ∀ (u' : H) (m : List Rw), m.Perm l → OwnF u0 u' 24 2 s (m.flatMap encR) → Else u u' s → K u') : C.slices_SortStableFunc__api_Row_ s fv u K := by
  have h : PermS u0 u s l u := ⟨Else.refl _ _, l, .refl _, ho⟩
  have hsn := h.len
  have fin : ∀ v, PermS u0 u s l v → K v := fun v ⟨he, m, hp, ho⟩ => hK v m hp ho he
  apply vc.slices_SortStableFunc__api_Row_
  apply vc.slices_stableCmpFunc_api_Row_
  refine ⟨fun a b w => 0 ≤ a ∧ a ≤ s.n ∧ b = a + 20 ∧ PermS u0 u s l w, fun a _ _ => ((s.n : Int) - a).toNat, ⟨by omega, by omega, by omega, h⟩, ?_⟩
  rintro a b w ⟨a0, a1, hb, hw⟩
  refine ⟨fun hle => ?_, fun hgt => ?_⟩
  · exact spec.insSort hub hbs hc hw hsm (by omega) (by omega) (by omega) fun v' hv' => ⟨⟨by omega, by omega⟩, ⟨by omega, by omega, by omega, hv'⟩, by dsimp only; omega⟩
  · refine spec.insSort hub hbs hc hw hsm (by omega) (by omega) (by omega) fun v' hv' => ?_
    refine ⟨fun _ _ k w => 20 ≤ k ∧ k ≤ 4000000 ∧ PermS u0 u s l w, fun _ _ k _ => (4000000 - k).toNat, ⟨by omega, by omega, hv'⟩, ?_⟩
    rintro _ _ k w ⟨k0, k1, hw⟩
    refine ⟨fun hk => ⟨⟨by omega, by omega⟩, ?_⟩, fun _ => fin w hw⟩
    refine ⟨fun x y w => 0 ≤ x ∧ x ≤ s.n ∧ y = x + 2 * k ∧ PermS u0 u s l w, fun x _ _ => ((s.n : Int) - x).toNat, ⟨by omega, by omega, by omega, hw⟩, ?_⟩
    rintro x y w ⟨x0, x1, hy, hw⟩
    refine ⟨fun hle => ⟨⟨by omega, by omega⟩, ?_⟩, fun hgt => ⟨⟨by omega, by omega⟩, fun hm => ?_, fun _ => ⟨⟨by omega, by omega⟩, ⟨by omega, by omega, hw⟩, by dsimp only; omega⟩⟩⟩
    · exact spec.symMerge hub hbs hc hsm (y - x).toNat (by omega) hw (by omega) (by omega) (by omega) (by omega) fun v' hv' => ⟨⟨by omega, by omega⟩, ⟨by omega, by omega⟩, ⟨by omega, by omega, by omega, hv'⟩, by dsimp only; omega⟩
    · exact spec.symMerge hub hbs hc hsm ((s.n : Int) - x).toNat (by omega) hw (by omega) (by omega) (by omega) (by omega) fun v' hv' => ⟨⟨by omega, by omega⟩, ⟨by omega, by omega, hv'⟩, by dsimp only; omega⟩

end Go.Proofs.YtbohcdjoglidhaaGreatDoor

/- VcDone -/
namespace Go.Proofs.YtbohcdjoglidhaaGreatDoor

theorem spec.topk_Heap__Len {u : H} {n : Nat} {k : Int} {s : Sl} {K : Int → H → Prop} (hn : u n = some (.cells #[.int .i64 k, .slice s.a s.n s.c] 177 (0, 0))) (hK : K s.n u) : C.topk_Heap__Len (some ⟨n, 0, none⟩) u K := by
  apply vc.topk_Heap__Len
  exact ⟨fun e => (by cases e), fun _ => ⟨_, rfl, s, H.cell?_of hn 1, hK⟩⟩

/-- The last of a sorted list is the one that none is behind. -/
theorem srt_last {l : List Hit} (hs : Srt l) {x : Hit} (hx : x ∈ l) (hm : ∀ y ∈ l, hlt x y = false) : l.getD (l.length - 1) default = x := by
  have hl : 0 < l.length := List.length_pos_iff.2 fun e => by rw [e] at hx; cases hx
  obtain ⟨i, hi, rfl⟩ := List.getElem_of_mem hx
  have hl1 : l.length - 1 < l.length := by omega
  rw [List.getD_eq_getElem?_getD, List.getElem?_eq_getElem hl1]
  show l[l.length - 1] = l[i]
  by_cases e : i = l.length - 1
  · subst e; rfl
  · have h1 := List.pairwise_iff_getElem.1 hs i (l.length - 1) hi hl1 (by omega)
    exact hlt_eq (hm _ (List.getElem_mem hl1)) h1

theorem spec.flat_Walk_2 {u0 u : H} {N n4 : Nat} {k hi lo : Int} {S : List Hit} {K : Bool → H → Prop} (h : TopAt u0 N k u S) (k1 : 1 ≤ k) (hd : ∀ g ∈ S, Dok g.2) (hn4 : u.cell? ⟨n4, 0, none⟩ = some (.pointer (some ⟨N, 0, none⟩))) (_h1 : U64 hi) (h2 : U64 lo)
    (hK : ∀ bb : Bool, (bb = true ↔ k ≤ (S.length : Int) ∧ ((topk k.toNat S).getD (k.toNat - 1) default).2 < wv hi lo) → K bb u) : C.flat_Walk_2 hi lo ⟨n4, 0, none⟩ u K := by
  obtain ⟨l, hst, hh, hp⟩ := h
  obtain ⟨s, hn, ho, hne⟩ := hst.ex
  have hsn := ho.hts.len
  have hlen := hp.length_eq
  rw [topk_len] at hlen
  apply vc.flat_Walk_2
  refine ⟨_, hn4, ?_⟩
  apply vc.topk_Heap__Worst
  have full : ∀ {x2 x3 : Int}, U64 x3 → ((s.n : Int) = k → wv x2 x3 = ((topk k.toNat S).getD (k.toNat - 1) default).2) → C.topk_Heap__Full (some ⟨N, 0, none⟩) u (fun (b7 : Bool) (u8 : H) => ((b7 = Bool.true) → C.wide_Cmp hi lo x2 x3 u8 (fun (x9 : Int) (u10 : H) => K (decide ((0 : Int) < x9)) u10)) ∧ ((b7 = Bool.false) → K Bool.false u8)) := by
    intro x2 x3 hx3 hw
    apply vc.topk_Heap__Full
    refine ⟨fun _ => ⟨_, rfl, _, rfl, s, H.cell?_of hn 1, _, H.cell?_of hn 0, fun hb => ?_, fun hb => ?_⟩, fun e => (by cases e)⟩
    · have he := of_decide_eq_true hb
      refine spec.wide_Cmp h2 hx3 ?_
      rw [hw he]
      have hks : k ≤ (S.length : Int) := by omega
      have key : ∀ z : Int, (0 < z ↔ ((topk k.toNat S).getD (k.toNat - 1) default).2 < wv hi lo) → K (decide (0 < z)) u := fun z hz => hK _ (by rw [decide_eq_true_iff, hz]; exact ⟨fun h => ⟨hks, h⟩, fun h => h.2⟩)
      refine key _ ?_
      split
      · omega
      · split <;> omega
    · have he := of_decide_eq_false hb
      exact hK _ ⟨fun e => (by cases e), fun hc => by omega⟩
  refine spec.topk_Heap__Len hn ⟨fun h0 => ⟨_, hn4, full ⟨by omega, by omega⟩ fun e => by omega⟩, fun hne0 => ?_⟩
  obtain ⟨p, hpp, g, hg, c0, c1, c2⟩ := ho.hts.at (x := 0) (by omega) (by omega)
  have hg0 : l.getD 0 default = g := by
    rw [List.getD_eq_getElem?_getD]
    have : l[(0 : Int).toNat]? = some g := hg
    rw [show (0 : Int).toNat = 0 from rfl] at this
    rw [this]; rfl
  have hgl : g ∈ l := List.mem_of_getElem? hg
  have hgt : g ∈ topk k.toNat S := hp.mem_iff.1 hgl
  have hdg : Dok g.2 := hd g ((sortH_perm _).mem_iff.1 (List.mem_of_mem_take hgt))
  have e0 : p.add ((0 : Int).toNat * 3) = p.add 0 := rfl
  rw [e0] at c0 c1 c2
  refine ⟨_, rfl, s, H.cell?_of hn 1, p, hpp, ⟨by omega, by omega⟩, _, c0, _, c1, _, c2, _, hn4, full (loU _) fun e => ?_⟩
  rw [wv_hl]
  have hL : LtOk (fun a b : Hit => hlt b a) := ⟨fun a b h => hlt_asymm h, fun a b c h k => hlt_le_trans k h⟩
  have hmax : ∀ y ∈ topk k.toNat S, hlt g y = false := fun y hy => by
    have hyl := hp.mem_iff.2 hy
    obtain ⟨i, hi, rfl⟩ := List.getElem_of_mem hyl
    have h3 : hlt (l.getD 0 default) (l.getD i default) = false := hh.root hL i hi
    have e : l.getD i default = l[i] := by rw [List.getD_eq_getElem?_getD, List.getElem?_eq_getElem hi]; rfl
    rw [e, hg0] at h3
    exact h3
  have hl := srt_last (topk_srt k.toNat S) hgt hmax
  rw [topk_len] at hl
  rw [show k.toNat - 1 = min k.toNat S.length - 1 by omega, hl]

end Go.Proofs.YtbohcdjoglidhaaGreatDoor

/- VcMeans -/
namespace Go.Proofs.YtbohcdjoglidhaaGreatDoor

def encS (s : Sl) : List Value := [.slice s.a s.n s.c]
theorem encS_len (c : Sl × List Int) : (encS c.1).length = 1 := rfl

/-- Vectors in memory. -/
structure VcsAt (u : H) (s : Sl) (l : List (Sl × List Int)) : Prop where
  seg : Seg u s 1 (l.flatMap fun c => encS c.1)
  ints : ∀ c ∈ l, Ints u c.1 c.2

theorem VcsAt.mono {u u' : H} {s : Sl} {l : List (Sl × List Int)} (h : VcsAt u s l) (k : u.le u') : VcsAt u' s l := ⟨h.seg.mono k, fun c hc => (h.ints c hc).mono k⟩
theorem VcsAt.len {u : H} {s : Sl} {l : List (Sl × List Int)} (h : VcsAt u s l) : s.n = l.length := flat_n encS_len (by decide) h.seg
theorem VcsAt.at {u : H} {s : Sl} {l : List (Sl × List Int)} (h : VcsAt u s l) {x : Int} (h0 : 0 ≤ x) (h1 : x < (s.n : Int)) : ∃ p, s.a = some p ∧ ∃ c, l[x.toNat]? = some c ∧ c ∈ l ∧ u.cell? (p.add (x.toNat * 1)) = some (.slice c.1.a c.1.n c.1.c) ∧ Ints u c.1 c.2 := by
  have hn := h.len
  have hl : x.toNat < l.length := by omega
  have hx : l[x.toNat]? = some l[x.toNat] := List.getElem?_eq_getElem hl
  obtain ⟨p, hp, hc⟩ := Seg.elem encS_len (by decide) h.seg hx
  exact ⟨p, hp, _, hx, List.getElem_mem hl, hc 0 _ rfl, h.ints _ (List.getElem_mem hl)⟩

/-- Centres that may be, of a dimension. -/
structure CsOk (l : List (Sl × List Int)) (d : Int) : Prop where
  dim : 1 ≤ d ∧ d ≤ 64
  many : 0 < l.length ∧ l.length ≤ 64
  each : ∀ c ∈ l, (c.2.length : Int) = d ∧ vok c.2

end Go.Proofs.YtbohcdjoglidhaaGreatDoor

/- VcBall -/
namespace Go.Proofs.YtbohcdjoglidhaaGreatDoor

/-- The farthest of the first so many rows. -/
def radTo (c : List Int) (l : List Rw) : Nat → Int
  | 0 => 0
  | n + 1 => if radTo c l n < sqTo c (l.getD n ⟨0, ⟨none, 0, 0⟩, []⟩).v c.length then sqTo c (l.getD n ⟨0, ⟨none, 0, 0⟩, []⟩).v c.length else radTo c l n

theorem radTo_ge (c : List Int) (l : List Rw) : ∀ n, 0 ≤ radTo c l n ∧ ∀ i r, i < n → l[i]? = some r → sqTo c r.v c.length ≤ radTo c l n := by
  intro n
  induction n with
  | zero => exact ⟨Int.le_refl _, fun i r h => by omega⟩
  | succ n ih =>
    obtain ⟨h0, h1⟩ := ih
    unfold radTo
    have last : ∀ r, l[n]? = some r → l.getD n ⟨0, ⟨none, 0, 0⟩, []⟩ = r := fun r hr => by rw [List.getD_eq_getElem?_getD, hr]; rfl
    split
    · rename_i hlt
      refine ⟨by omega, fun i r hi hr => ?_⟩
      by_cases e : i = n
      · subst e; rw [last r hr]; exact Int.le_refl _
      · have := h1 i r (by omega) hr; omega
    · rename_i hge
      refine ⟨h0, fun i r hi hr => ?_⟩
      by_cases e : i = n
      · subst e; rw [last r hr] at hge; omega
      · exact h1 i r (by omega) hr

theorem radTo_ok {c : List Int} {l : List Rw} (hc : vok c) (hl : Rok l c.length) : ∀ n, n ≤ l.length → Dok (radTo c l n) := by
  intro n
  induction n with
  | zero => intro _; exact ⟨Int.le_refl _, (by decide : (0 : Int) < 340282366920938463463374607431768211456)⟩
  | succ n ih =>
    intro hn
    unfold radTo
    have hg : l.getD n ⟨0, ⟨none, 0, 0⟩, []⟩ ∈ l := by
      rw [List.getD_eq_getElem?_getD, List.getElem?_eq_getElem (by omega)]
      exact List.getElem_mem (by omega)
    obtain ⟨e1, e2⟩ := hl.v _ hg
    split
    · exact sqTo_ok hc e2 (by omega)
    · exact ih (by omega)

theorem spec.vec_Ball {s t : Sl} {c : List Int} {l : List Rw} {u : H} {K : Int → Sl → Sl → Int → Int → Sl → Int → H → Prop} (hs : Ints u s c) (hc : vok c) (ht : Rws u t l) (hl : Rok l c.length)
    (hK : ∀ s' i' u', OwnF u u' 3 1 s' (c.flatMap encI) → K 3 s' ⟨none, 0, 0⟩ (hiW (radTo c l l.length)) (loW (radTo c l l.length)) i' 0 u') : C.vec_Ball s t u K := by
  have hsn := hs.len
  have htn := ht.len
  have htm := ht.max
  have hd := hl.dim
  have h64 := hc.1
  have z : U64 0 := ⟨by omega, by omega⟩
  apply vc.vec_Ball
  refine spec.vec_Check hs ?_
  rw [hsn, vcheck_reg hc rfl hd]
  refine ⟨fun hx => absurd rfl hx, fun _ => spec.vec_ids ht hl fun i' u4 o4 => ⟨fun hx => absurd rfl hx, fun _ => ?_⟩⟩
  refine ⟨fun i x y w => w = u4 ∧ 0 ≤ i ∧ i ≤ t.n ∧ U64 x ∧ U64 y ∧ wv x y = radTo c l i.toNat, fun i _ _ _ => ((t.n : Int) - i).toNat, ⟨rfl, by omega, by omega, z, z, rfl⟩, ?_⟩
  rintro i x y w ⟨rfl, i0, i1, hx, hy, hw⟩
  refine ⟨fun hi => ?_, fun hi => ?_⟩
  · obtain ⟨p, hp, r, hr, c0, c1, hri⟩ := (ht.mono o4.le).at i0 hi
    have hrm := List.mem_of_getElem? hr
    obtain ⟨e1, e2⟩ := hl.v r hrm
    have eg : l.getD i.toNat ⟨0, ⟨none, 0, 0⟩, []⟩ = r := by rw [List.getD_eq_getElem?_getD, hr]; rfl
    have step : radTo c l (i + 1).toNat = if radTo c l i.toNat < sqTo c r.v c.length then sqTo c r.v c.length else radTo c l i.toNat := by
      rw [show (i + 1).toNat = i.toNat + 1 by omega]
      show (if _ then _ else _) = _
      rw [eg]
    refine ⟨p, hp, ⟨i0, hi⟩, _, c0, _, c1, spec.vec_far (hs.mono o4.le) hri hc e2 (by omega) fun x' y' hx' hy' hw' => spec.wide_Cmp hy' hy ?_⟩
    rw [hw, hw']
    by_cases hlt : radTo c l i.toNat < sqTo c r.v c.length
    · refine ⟨fun _ => ⟨⟨by omega, by omega⟩, ⟨rfl, by omega, by omega, hx', hy', by rw [step, if_pos hlt]; exact hw'⟩, by dsimp only; omega⟩, fun hx => absurd ?_ hx⟩
      rw [if_neg (by omega), if_pos hlt]
      decide
    · refine ⟨fun hx => absurd hx ?_, fun _ => ⟨⟨by omega, by omega⟩, ⟨rfl, by omega, by omega, hx, hy, by rw [step, if_neg hlt]; exact hw⟩, by dsimp only; omega⟩⟩
      rw [if_neg hlt]
      split <;> decide
  · have : i.toNat = l.length := by omega
    rw [this] at hw
    obtain ⟨g1, g2⟩ := wv_U hx hy
    rw [hw] at g1 g2
    refine spec.slices_Clone___int_int_ (hs.mono o4.le) (by omega) fun s' u' ho _ => ⟨ho.le, ?_⟩
    rw [g1, g2]
    exact hK _ _ _ (ho.weaken o4.le)

end Go.Proofs.YtbohcdjoglidhaaGreatDoor

/- VcRangeG -/
namespace Go.Proofs.YtbohcdjoglidhaaGreatDoor
open Go.RowKit

end Go.Proofs.YtbohcdjoglidhaaGreatDoor

/- VcRangeM -/
namespace Go.Proofs.YtbohcdjoglidhaaGreatDoor
open Go.RowKit

end Go.Proofs.YtbohcdjoglidhaaGreatDoor

/- VcPerm -/
namespace Go.Proofs.YtbohcdjoglidhaaGreatDoor

def nxS (st : Int) : Int := IntKind.u64.wrap (st + 11400714819323198485)
def outS (x : Int) : Int :=
  bits .xor .u64 (IntKind.u64.wrap (bits .xor .u64 (IntKind.u64.wrap (bits .xor .u64 x (Int.fdiv x (2 ^ 30)) * 13787848793156543929)) (Int.fdiv (IntKind.u64.wrap (bits .xor .u64 x (Int.fdiv x (2 ^ 30)) * 13787848793156543929)) (2 ^ 27)) * 10723151780598845931))
    (Int.fdiv (IntKind.u64.wrap (bits .xor .u64 (IntKind.u64.wrap (bits .xor .u64 x (Int.fdiv x (2 ^ 30)) * 13787848793156543929)) (Int.fdiv (IntKind.u64.wrap (bits .xor .u64 x (Int.fdiv x (2 ^ 30)) * 13787848793156543929)) (2 ^ 27)) * 10723151780598845931)) (2 ^ 31))

theorem bits_U (op : BinOp) (x y : Int) : U64 (bits op .u64 x y) := by
  have := wf_bits op .u64 x y
  simp [Lit.wf, IntKind.min, IntKind.max, IntKind.signed, IntKind.bits] at this
  unfold U64
  omega

theorem wrap_U (x : Int) : U64 (IntKind.u64.wrap x) := by
  have := wf_wrap .u64 x
  simp [Lit.wf, IntKind.min, IntKind.max, IntKind.signed, IntKind.bits] at this
  unfold U64
  omega

theorem outS_U (x : Int) : U64 (outS x) := bits_U _ _ _
theorem nxS_U (x : Int) : U64 (nxS x) := wrap_U _

theorem below_eq {x n : Int} (hx : U64 x) (h1 : 1 ≤ n) (h2 : n ≤ 1000000000) : IntKind.u64.wrap n ≠ 0 ∧ IntKind.i64.wrap (Int.tmod x (IntKind.u64.wrap n)) = x % n := by
  have e1 : IntKind.u64.wrap n = n := IntWalk.u64_in n (by omega)
  have e2 : Int.tmod x n = x % n := Int.tmod_eq_emod_of_nonneg hx.1
  have h3 := Int.emod_nonneg x (show n ≠ 0 by omega)
  have h4 := Int.emod_lt_of_pos x (show 0 < n by omega)
  rw [e1, e2]
  exact ⟨by omega, IntWalk.i64_in _ (by omega)⟩

theorem spec.rand_Next {src : Nat} {st : Int} {u : H} {K : Int → H → Prop} (h : u src = some (.cells #[.int .u64 st] 134 (0, 0)))
    (hK : K (outS (nxS st)) (u.ins src (.cells #[.int .u64 (nxS st)] 134 (0, 0)))) : C.rand_Source__Next (some ⟨src, 0, none⟩) u K := by
  apply vc.rand_Source__Next
  exact ⟨fun h => (by cases h), fun _ => ⟨_, rfl, st, H.cell?_of h 0, _, rfl, st_one h (by simp [Value.oneCell']) ⟨_, rfl, _, H.cell?_of (H.ins_same _ _ _) 0, by omega, by omega, by omega, hK⟩⟩⟩

theorem spec.rand_Below {src : Nat} {st n : Int} {u : H} {K : Int → Int → H → Prop} (h : u src = some (.cells #[.int .u64 st] 134 (0, 0))) (h1 : 1 ≤ n) (h2 : n ≤ 1000000000)
    (hK : K (outS (nxS st) % n) 0 (u.ins src (.cells #[.int .u64 (nxS st)] 134 (0, 0)))) : C.rand_Source__Below (some ⟨src, 0, none⟩) n u K := by
  obtain ⟨e1, e2⟩ := below_eq (outS_U (nxS st)) h1 h2
  apply vc.rand_Source__Below
  apply vc.rand_Source__may
  refine ⟨fun h => (by cases h), fun _ => ⟨fun h => by omega, fun _ => ⟨fun h => by omega, fun _ => ⟨fun h => absurd rfl h, fun _ => spec.rand_Next h ⟨e1, ?_⟩⟩⟩⟩⟩
  rw [e2]
  exact hK

end Go.Proofs.YtbohcdjoglidhaaGreatDoor
