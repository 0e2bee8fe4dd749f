/- Layer 1's functions, and the distances of layer 3. -/
import Derived.Test.YtgfafpiinencpaaGreatVcF0
import Derived.Test.YtgfafpiinencpaaGreatVcUser
namespace Go.Proofs.YtgfafpiinencpaaGreat

def U64 (x : Int) : Prop := 0 ≤ x ∧ x < 18446744073709551616

/-- What a Wide tells. -/
def wv (hi lo : Int) : Int := hi * 18446744073709551616 + lo

theorem spec.wide_Cmp {a b c d : Int} {u : H} {K : Int → H → Prop} (ha : U64 b) (hb : U64 d)
    (h : K (if wv a b < wv c d then -1 else if wv c d < wv a b then 1 else 0) u) : C.wide_Cmp a b c d u K := by
  apply vc.wide_Cmp
  have key : ∀ z, (if wv a b < wv c d then (-1 : Int) else if wv c d < wv a b then 1 else 0) = z → K z u := fun z e => e ▸ h
  simp only [U64, wv] at *
  refine ⟨fun h => key _ ?_, fun h => ⟨fun h1 => key _ ?_, fun h1 => ⟨fun h2 => ⟨fun h3 => key _ ?_, fun h3 => key _ ?_⟩, fun h2 => key _ ?_⟩⟩⟩
  all_goals (repeat' split) <;> omega

theorem add64 {a b c : Int} {u : H} {K : Int → Int → H → Prop} (ha : U64 a) (hb : U64 b) (hc0 : 0 ≤ c) (hc : c ≤ 1)
    (h : K ((a + b + c) % 18446744073709551616) ((a + b + c) / 18446744073709551616) u) :
    SemT Tryz.prog (callX 118 #[.int .u64 a, .int .u64 b, .int .u64 c]) [.one (.int .u64), .one (.int .u64)] u K := by
  refine SemT.pure [.int .u64 ((a + b + c) % 18446744073709551616), .int .u64 ((a + b + c) / 18446744073709551616)] (fun w _ => ?_) (.cons (t := .int .u64) _ (.cons (t := .int .u64) _ .nil)) h
  unfold callX
  rw [Sem.run_bind, run_callFunc_extern Tryz.func118 (by kernel_rfl) (by kernel_rfl) (by kernel_rfl) (e := add64Entry) (by kernel_rfl), run_add64 a b c ha.1 hb.1 hc0 hc]
  rfl

theorem spec.wide_Add {a b c d : Int} {u : H} {K : Int → Int → Int → H → Prop} (ha : U64 a) (hb : U64 b) (hc : U64 c) (hd : U64 d)
    (h1 : ∀ x y, U64 x → U64 y → wv x y = wv a b + wv c d → K x y 0 u) (h2 : 340282366920938463463374607431768211456 ≤ wv a b + wv c d → K 0 0 10 u) : C.wide_Add a b c d u K := by
  apply vc.wide_Add
  simp only [U64, wv] at *
  refine add64 hb hd (by omega) (by omega) (add64 ha hc (by omega) (by omega) ⟨fun h => h2 (by omega), fun h => h1 _ _ (by omega) (by omega) (by omega)⟩)

theorem spec.bits_Mul64 {a b : Int} {u : H} {K : Int → Int → H → Prop} (ha : U64 a) (hb : U64 b)
    (h : K (a * b / 18446744073709551616) (a * b % 18446744073709551616) u) : C.bits_Mul64 a b u K := by
  apply vc.bits_Mul64
  refine ⟨by omega, by omega, by omega, by omega, by omega, ?_⟩
  have e := mul64_arith a b ha.1 ha.2 hb.1 hb.2
  have w : ∀ z, IntKind.wrap .u64 z = z % 18446744073709551616 := IntKind.wrap_u64
  have al : ∀ z, 0 ≤ z → z < 18446744073709551616 → bits .and .u64 z 4294967295 = z % 4294967296 := and_low32
  have p : (2 : Int) ^ 32 = 4294967296 := by decide
  have fd : ∀ z : Int, Int.fdiv z 4294967296 = z / 4294967296 := fun z => Int.fdiv_eq_ediv_of_nonneg z (by decide)
  simp only [w, p, fd, al a ha.1 ha.2, al b hb.1 hb.2]
  rw [al _ (by omega) (by omega), e]
  exact h

theorem spec.wide_Mul {a b : Int} {u : H} {K : Int → Int → H → Prop} (ha : U64 a) (hb : U64 b)
    (h : ∀ x y, U64 x → U64 y → wv x y = a * b → K x y u) : C.wide_Mul a b u K := by
  apply vc.wide_Mul
  refine spec.bits_Mul64 ha hb (h _ _ ?_ ?_ ?_)
  · obtain ⟨h1, h2⟩ := ha
    obtain ⟨h3, h4⟩ := hb
    have := Int.mul_nonneg h1 h3
    have : a * b ≤ 18446744073709551615 * 18446744073709551615 := Int.mul_le_mul (by omega) (by omega) h3 (by omega)
    constructor <;> omega
  · constructor <;> omega
  · unfold wv; omega

/-- A coordinate as it must be. -/
def coordOk (x : Int) : Prop := -2147483647 ≤ x ∧ x ≤ 2147483647
instance (x : Int) : Decidable (coordOk x) := inferInstanceAs (Decidable (_ ∧ _))

/-- The square of a difference. -/
def sqd (x y : Int) : Int := (x - y) * (x - y)

theorem spec.vec_plus {a b x y : Int} {u : H} {K : Int → Int → H → Prop} (ha : U64 a) (hb : U64 b) (hx : coordOk x) (hy : coordOk y)
    (hs : wv a b + 18446744073709551616 < 340282366920938463463374607431768211456)
    (h : ∀ c d, U64 c → U64 d → wv c d = wv a b + sqd x y → K c d u) : C.vec_plus a b x y u K := by
  apply vc.vec_plus
  have e : (ite (y > x) y x) - (ite (y < x) y x) = if x < y then y - x else x - y := by (repeat' split) <;> omega
  rw [e]
  unfold coordOk at hx hy
  have d1 : ∃ z : Int, z = (if x < y then y - x else x - y) ∧ 0 ≤ z ∧ z ≤ 4294967294 ∧ z * z = sqd x y := by
    refine ⟨_, rfl, ?_, ?_, ?_⟩
    · split <;> omega
    · split <;> omega
    · unfold sqd; split <;> grind
  obtain ⟨z, hz, h0, h2, h3⟩ := d1
  rw [← hz]
  refine ⟨⟨by omega, by omega⟩, ?_⟩
  have hw : IntKind.wrap .u64 z = z := IntWalk.u64_in z ⟨h0, by omega⟩
  rw [hw]
  have hz : U64 z := ⟨h0, by omega⟩
  refine spec.wide_Mul hz hz fun p q hp hq he => ⟨H.le.refl u, ?_⟩
  have hzz : 0 ≤ z * z ∧ z * z ≤ 18446744056529682436 := ⟨Int.mul_nonneg h0 h0, by have := Int.mul_le_mul h2 h2 h0 (by omega); omega⟩
  refine spec.wide_Add ha hb hp hq (fun c d hc hd hcd => h c d hc hd (by rw [hcd, he, h3])) fun hh => ?_
  exfalso
  omega

theorem sqd_le {x y : Int} (hx : coordOk x) (hy : coordOk y) : 0 ≤ sqd x y ∧ sqd x y ≤ 18446744056529682436 := by
  unfold coordOk at hx hy
  unfold sqd
  constructor
  · rcases Int.le_total 0 (x - y) with h | h
    · exact Int.mul_nonneg h h
    · exact Int.mul_nonneg_of_nonpos_of_nonpos h h
  · rcases Int.le_total 0 (x - y) with h | h
    · have := Int.mul_le_mul (show x - y ≤ 4294967294 by omega) (show x - y ≤ 4294967294 by omega) h (by omega); omega
    · have e : (x - y) * (x - y) = (y - x) * (y - x) := by grind
      have := Int.mul_le_mul (show y - x ≤ 4294967294 by omega) (show y - x ≤ 4294967294 by omega) (by omega) (by omega); omega

/-! ### layer 3 -/

/-- What a vector's test answers. -/
def vcheck (l : List Int) (d : Int) : Int :=
  if 1 ≤ d ∧ d ≤ 64 ∧ (l.length : Int) = d then (if ∀ i, i < l.length → coordOk (l.getD i 0) then 0 else 31) else 30

theorem spec.vec_dim {d : Int} {u : H} {K : Bool → H → Prop} (h : K (decide (1 ≤ d ∧ d ≤ 64)) u) : C.vec_dim d u K := by
  apply vc.vec_dim
  refine ⟨fun h1 => ?_, fun h1 => ?_⟩
  · have : @decide (d ≤ 64) (@inferInstance _ (Int.decLe d 64)) = decide (1 ≤ d ∧ d ≤ 64) := by simp [h1]
    rw [this]; exact h
  · have : decide (1 ≤ d ∧ d ≤ 64) = false := by simp; omega
    rw [this] at h; exact h

theorem spec.vec_Check {s : Sl} {l : List Int} {d : Int} {u : H} {K : Int → H → Prop} (hs : Ints u s l) (h : K (vcheck l d) u) : C.vec_Check s d u K := by
  have key : ∀ z, vcheck l d = z → K z u := fun z e => e ▸ h
  have hn := hs.len
  have hmx := hs.max
  apply vc.vec_Check
  intro K0 hK0
  refine spec.vec_dim ⟨fun hb => key _ ?_, fun hb => ⟨fun hl => key _ ?_, fun hl => hK0 _ _ ?_⟩⟩
  · have : ¬ (1 ≤ d ∧ d ≤ 64) := by simpa using hb
    unfold vcheck; rw [if_neg (fun h => this ⟨h.1, h.2.1⟩)]
  · unfold vcheck; rw [if_neg (fun h => hl (by rw [hn]; exact h.2.2))]
  · have hd : 1 ≤ d ∧ d ≤ 64 := by simpa using hb
    have hv : vcheck l d = if ∀ i, i < l.length → coordOk (l.getD i 0) then 0 else 31 := by unfold vcheck; rw [if_pos ⟨hd.1, hd.2, by rw [← hl, hn]⟩]
    refine ⟨fun _ i u' => u' = u ∧ 0 ≤ i ∧ i ≤ (s.n : Int) ∧ ∀ j, j < i.toNat → coordOk (l.getD j 0), fun _ i _ => s.n - i.toNat, ⟨rfl, by omega, by omega, fun j hj => by simp at hj⟩, ?_⟩
    rintro _ i u' ⟨rfl, h0, h1, hp⟩
    refine ⟨fun hi => ?_, fun hi => key _ ?_⟩
    · obtain ⟨p, hp', hc⟩ := hs.at h0 hi
      have bad : ¬ coordOk (l.getD i.toNat 0) → K 31 u' := fun hb => key _ (by rw [hv, if_neg (fun hall => hb (hall _ (by omega)))])
      refine ⟨p, hp', ⟨h0, hi⟩, _, hc, fun hx => bad (fun hb => by unfold coordOk at hb; omega), fun hx => ⟨fun hy => bad (fun hb => by unfold coordOk at hb; omega), fun hy => ⟨⟨by omega, by omega⟩, ⟨rfl, by omega, by omega, ?_⟩, by dsimp only; omega⟩⟩⟩
      intro j hj
      rcases Nat.lt_or_ge j i.toNat with hj' | hj'
      · exact hp j hj'
      · have : j = i.toNat := by omega
        subst this
        exact ⟨by omega, by omega⟩
    · rw [hv, if_pos]
      intro j hj
      exact hp j (by omega)

theorem spec.theodoliteref03_Check {s : Sl} {l : List Int} {d : Int} {u : H} {K : Int → H → Prop} (hs : Ints u s l) (h : K (vcheck l d) u) : C.theodoliteref03_Check s d u K := by
  have key : ∀ z, vcheck l d = z → K z u := fun z e => e ▸ h
  have hn := hs.len
  have hmx := hs.max
  apply vc.theodoliteref03_Check
  intro K0 hK0
  refine ⟨fun hb => key _ ?_, fun hb => ⟨fun hb2 => key _ ?_, fun hb2 => ⟨fun hl => key _ ?_, fun hl => hK0 _ _ ?_⟩⟩⟩
  · unfold vcheck; rw [if_neg (fun h => by omega)]
  · unfold vcheck; rw [if_neg (fun h => by omega)]
  · unfold vcheck; rw [if_neg (fun h => hl (by rw [hn]; exact h.2.2))]
  · have hv : vcheck l d = if ∀ i, i < l.length → coordOk (l.getD i 0) then 0 else 31 := by unfold vcheck; rw [if_pos ⟨by omega, by omega, by rw [← hl, hn]⟩]
    refine ⟨fun _ i u' => u' = u ∧ 0 ≤ i ∧ i ≤ (s.n : Int) ∧ ∀ j, j < i.toNat → coordOk (l.getD j 0), fun _ i _ => s.n - i.toNat, ⟨rfl, by omega, by omega, fun j hj => by simp at hj⟩, ?_⟩
    rintro _ i u' ⟨rfl, h0, h1, hp⟩
    refine ⟨fun hi => ?_, fun hi => key _ ?_⟩
    · obtain ⟨p, hp', hc⟩ := hs.at h0 hi
      have bad : ¬ coordOk (l.getD i.toNat 0) → K 31 u' := fun hb => key _ (by rw [hv, if_neg (fun hall => hb (hall _ (by omega)))])
      refine ⟨p, hp', ⟨h0, hi⟩, _, hc, fun hx => bad (fun hb => by unfold coordOk at hb; omega), fun hx => ⟨p, hp', ⟨h0, hi⟩, _, hc, fun hy => bad (fun hb => by unfold coordOk at hb; omega), fun hy => ⟨⟨by omega, by omega⟩, ⟨rfl, by omega, by omega, ?_⟩, by dsimp only; omega⟩⟩⟩
      intro j hj
      rcases Nat.lt_or_ge j i.toNat with hj' | hj'
      · exact hp j hj'
      · have : j = i.toNat := by omega
        subst this
        exact ⟨by omega, by omega⟩
    · rw [hv, if_pos]
      intro j hj
      exact hp j (by omega)

/-- The sum of the squares of the first n differences. -/
def sqTo (a b : List Int) : Nat → Int
  | 0 => 0
  | n + 1 => sqTo a b n + sqd (a.getD n 0) (b.getD n 0)

/-- A vector as it must be. -/
def vok (l : List Int) : Prop := l.length ≤ 64 ∧ ∀ i, i < l.length → coordOk (l.getD i 0)

theorem sqTo_le {a b : List Int} (ha : vok a) (hb : vok b) : ∀ n, n ≤ a.length → n ≤ b.length → 0 ≤ sqTo a b n ∧ sqTo a b n ≤ n * 18446744056529682436 := by
  intro n
  induction n with
  | zero => intro _ _; simp [sqTo]
  | succ n ih =>
    intro h1 h2
    obtain ⟨i1, i2⟩ := ih (by omega) (by omega)
    have := sqd_le (ha.2 n (by omega)) (hb.2 n (by omega))
    simp only [sqTo]
    constructor <;> omega

theorem spec.vec_far {s t : Sl} {a b : List Int} {u : H} {K : Int → Int → H → Prop} (hs : Ints u s a) (ht : Ints u t b) (ha : vok a) (hb : vok b) (hl : a.length = b.length)
    (h : ∀ x y, U64 x → U64 y → wv x y = sqTo a b a.length → K x y u) : C.vec_far s t u K := by
  have hn := hs.len
  have hm := ht.len
  have h64 := ha.1
  apply vc.vec_far
  refine ⟨fun i x y u' => u' = u ∧ 0 ≤ i ∧ i ≤ (s.n : Int) ∧ U64 x ∧ U64 y ∧ wv x y = sqTo a b i.toNat, fun i _ _ _ => s.n - i.toNat, ⟨rfl, by omega, by omega, ⟨by omega, by omega⟩, ⟨by omega, by omega⟩, rfl⟩, ?_⟩
  rintro i x y u' ⟨rfl, h0, h1, hx, hy, hw⟩
  refine ⟨fun hi => ?_, fun hi => ?_⟩
  · obtain ⟨p, hp, hc⟩ := hs.at h0 hi
    obtain ⟨q, hq, hd⟩ := ht.at h0 (show i < (t.n : Int) by omega)
    have hle := sqTo_le ha hb i.toNat (by omega) (by omega)
    refine ⟨p, hp, ⟨h0, hi⟩, q, hq, ⟨h0, by omega⟩, _, hc, _, hd, spec.vec_plus hx hy (ha.2 _ (by omega)) (hb.2 _ (by omega)) (by omega) fun c d hc hd hcd => ⟨⟨by omega, by omega⟩, ⟨rfl, by omega, by omega, hc, hd, ?_⟩, by dsimp only; omega⟩⟩
    rw [hcd, hw, show (i + 1).toNat = i.toNat + 1 by omega]
    rfl
  · have : i.toNat = a.length := by omega
    exact h x y hx hy (by rw [hw, this])

theorem spec.theodoliteref03_Sum {a b c d : Int} {u : H} {K : Int → Int → H → Prop} (ha : U64 a) (hb : U64 b) (hc : U64 c) (hd : U64 d) (hs : wv a b + wv c d < 340282366920938463463374607431768211456)
    (h : ∀ x y, U64 x → U64 y → wv x y = wv a b + wv c d → K x y u) : C.theodoliteref03_Sum a b c d u K := by
  apply vc.theodoliteref03_Sum
  simp only [IntKind.wrap_u64, U64, wv] at *
  exact ⟨fun hlt => h _ _ (by omega) (by omega) (by omega), fun hlt => h _ _ (by omega) (by omega) (by omega)⟩

theorem spec.theodoliteref03_Square {z : Int} {u : H} {K : Int → Int → H → Prop} (hz : -4294967294 ≤ z ∧ z ≤ 4294967294) (h : K 0 (z * z) u) : C.theodoliteref03_Square z u K := by
  apply vc.theodoliteref03_Square
  intro K0 hK0
  have key : ∀ x : Int, 0 ≤ x → x ≤ 4294967294 → x * x = z * z → K 0 (IntKind.wrap .u64 (IntKind.wrap .u64 x * IntKind.wrap .u64 x)) u := by
    intro x h0 h1 hx
    have hw : IntKind.wrap .u64 x = x := IntWalk.u64_in x ⟨h0, by omega⟩
    have hxx : 0 ≤ x * x ∧ x * x ≤ 18446744056529682436 := ⟨Int.mul_nonneg h0 h0, by have := Int.mul_le_mul h1 h1 h0 (by omega); omega⟩
    rw [hw, IntWalk.u64_in (x * x) ⟨hxx.1, by omega⟩, hx]
    exact h
  refine ⟨fun hn => hK0 _ _ ?_, fun hn => hK0 _ _ (key _ (by omega) (by omega) rfl)⟩
  rw [IntWalk.i64_in (0 - z) (by omega)]
  exact key _ (by omega) (by omega) (by grind)

theorem spec.theodoliteref03_Far {s t : Sl} {a b : List Int} {u : H} {K : Int → Int → H → Prop} (hs : Ints u s a) (ht : Ints u t b) (ha : vok a) (hb : vok b) (hl : a.length = b.length)
    (h : ∀ x y, U64 x → U64 y → wv x y = sqTo a b a.length → K x y u) : C.theodoliteref03_Far s t u K := by
  have hn := hs.len
  have hm := ht.len
  have h64 := ha.1
  apply vc.theodoliteref03_Far
  refine ⟨fun i x y u' => u' = u ∧ 0 ≤ i ∧ i ≤ (s.n : Int) ∧ U64 x ∧ U64 y ∧ wv x y = sqTo a b i.toNat, fun i _ _ _ => s.n - i.toNat, ⟨rfl, by omega, by omega, ⟨by omega, by omega⟩, ⟨by omega, by omega⟩, rfl⟩, ?_⟩
  rintro i x y u' ⟨rfl, h0, h1, hx, hy, hw⟩
  refine ⟨fun hi => ?_, fun hi => ?_⟩
  · obtain ⟨p, hp, hc⟩ := hs.at h0 hi
    obtain ⟨q, hq, hd⟩ := ht.at h0 (show i < (t.n : Int) by omega)
    have hle := sqTo_le ha hb i.toNat (by omega) (by omega)
    have c1 := ha.2 i.toNat (by omega)
    have c2 := hb.2 i.toNat (by omega)
    have hsq := sqd_le c1 c2
    unfold coordOk at c1 c2
    refine ⟨p, hp, ⟨h0, hi⟩, q, hq, ⟨h0, by omega⟩, _, hc, _, hd, ⟨by omega, by omega⟩, spec.theodoliteref03_Square (by omega) ⟨H.le.refl _, ?_⟩⟩
    have hu : U64 ((a.getD i.toNat 0 - b.getD i.toNat 0) * (a.getD i.toNat 0 - b.getD i.toNat 0)) := ⟨hsq.1, by have := hsq.2; unfold sqd at this; omega⟩
    have hwv : wv 0 ((a.getD i.toNat 0 - b.getD i.toNat 0) * (a.getD i.toNat 0 - b.getD i.toNat 0)) = sqd (a.getD i.toNat 0) (b.getD i.toNat 0) := by unfold wv sqd; omega
    refine spec.theodoliteref03_Sum hx hy ⟨by omega, by omega⟩ hu (by rw [hwv]; omega) fun c d hc hd hcd => ⟨⟨by omega, by omega⟩, ⟨rfl, by omega, by omega, hc, hd, ?_⟩, by dsimp only; omega⟩
    rw [hcd, hw, hwv, show (i + 1).toNat = i.toNat + 1 by omega]
    rfl
  · have : i.toNat = a.length := by omega
    exact h x y hx hy (by rw [hw, this])

end Go.Proofs.YtgfafpiinencpaaGreat
