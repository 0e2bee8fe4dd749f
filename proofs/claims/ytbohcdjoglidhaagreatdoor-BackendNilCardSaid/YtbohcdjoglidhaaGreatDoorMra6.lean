/- Texts of mine, joined by merge.py: VcWide, VcHits, VcRef, VcRows, VcHits2, VcHits3, VcHeapPure, VcHeap, VcShelf, VcSort, VcTopk, VcTopk2, VcRange, VcFlat, VcFlat2, VcBox. -/
import Derived.Test.YtbohcdjoglidhaaGreatDoorMra5
import Derived.Shelf.SlSortCmp.WholeK
import Derived.Shelf.SlSortCmp.Whole1
import Derived.Shelf.SortG.Plain
import Derived.Shelf.SortG.SortNone
import Derived.Shelf.SlGeneric
import Derived.Shelf.Spec.TrailingZeros
import Derived.Test.YtbohcdjoglidhaaGreatDoorProg
import Derived.Shelf.SlSortCmp.NoneTotal
import Derived.RangeFuncIn
import Derived.OrdersIn
set_option maxRecDepth 100000

/- VcWide -/
namespace Go.Proofs.YtbohcdjoglidhaaGreatDoor

def U64 (x : Int) : Prop := 0 ≤ x ∧ x < 18446744073709551616

/-- What a Wide tells. -/
def wv (hi lo : Int) : Int := hi * 18446744073709551616 + lo

theorem spec.wide_Cmp {a b c d : Int} {u : H} {K : Int → H → Prop} (ha : U64 b) (hb : U64 d)
    (h : K (if wv a b < wv c d then -1 else if wv c d < wv a b then 1 else 0) u) : C.wide_Cmp a b c d u K := by
  apply vc.wide_Cmp
  have key : ∀ z, (if wv a b < wv c d then (-1 : Int) else if wv c d < wv a b then 1 else 0) = z → K z u := fun z e => e ▸ h
  simp only [U64, wv] at *
  refine ⟨fun h => key _ ?_, fun h => ⟨fun h1 => key _ ?_, fun h1 => ⟨fun h2 => ⟨fun h3 => key _ ?_, fun h3 => key _ ?_⟩, fun h2 => key _ ?_⟩⟩⟩
  all_goals (repeat' split) <;> omega

theorem add64 {a b c : Int} {u : H} {K : Int → Int → H → Prop} (ha : U64 a) (hb : U64 b) (hc0 : 0 ≤ c) (hc : c ≤ 1)
    (h : K ((a + b + c) % 18446744073709551616) ((a + b + c) / 18446744073709551616) u) :
    SemT Tryz.prog (callX 147 #[.int .u64 a, .int .u64 b, .int .u64 c]) [.one (.int .u64), .one (.int .u64)] u K := by
  refine SemT.pure [.int .u64 ((a + b + c) % 18446744073709551616), .int .u64 ((a + b + c) / 18446744073709551616)] (fun w _ => ?_) (.cons (t := .int .u64) _ (.cons (t := .int .u64) _ .nil)) h
  unfold callX
  rw [Sem.run_bind, run_callFunc_extern Tryz.func147 (by kernel_rfl) (by kernel_rfl) (by kernel_rfl) (e := add64Entry) (by kernel_rfl), run_add64 a b c ha.1 hb.1 hc0 hc]
  rfl

theorem spec.wide_Add {a b c d : Int} {u : H} {K : Int → Int → Int → H → Prop} (ha : U64 a) (hb : U64 b) (hc : U64 c) (hd : U64 d)
    (h1 : ∀ x y, U64 x → U64 y → wv x y = wv a b + wv c d → K x y 0 u) (h2 : 340282366920938463463374607431768211456 ≤ wv a b + wv c d → K 0 0 10 u) : C.wide_Add a b c d u K := by
  apply vc.wide_Add
  simp only [U64, wv] at *
  refine add64 hb hd (by omega) (by omega) (add64 ha hc (by omega) (by omega) ⟨fun h => h2 (by omega), fun h => h1 _ _ (by omega) (by omega) (by omega)⟩)

theorem spec.bits_Mul64 {a b : Int} {u : H} {K : Int → Int → H → Prop} (ha : U64 a) (hb : U64 b)
    (h : K (a * b / 18446744073709551616) (a * b % 18446744073709551616) u) : C.bits_Mul64 a b u K := by
  apply vc.bits_Mul64
  refine ⟨by omega, by omega, by omega, by omega, by omega, ?_⟩
  have e := mul64_arith a b ha.1 ha.2 hb.1 hb.2
  have w : ∀ z, IntKind.wrap .u64 z = z % 18446744073709551616 := IntKind.wrap_u64
  have al : ∀ z, 0 ≤ z → z < 18446744073709551616 → bits .and .u64 z 4294967295 = z % 4294967296 := and_low32
  have p : (2 : Int) ^ 32 = 4294967296 := by decide
  have fd : ∀ z : Int, Int.fdiv z 4294967296 = z / 4294967296 := fun z => Int.fdiv_eq_ediv_of_nonneg z (by decide)
  simp only [w, p, fd, al a ha.1 ha.2, al b hb.1 hb.2]
  rw [al _ (by omega) (by omega), e]
  exact h

theorem spec.wide_Mul {a b : Int} {u : H} {K : Int → Int → H → Prop} (ha : U64 a) (hb : U64 b)
    (h : ∀ x y, U64 x → U64 y → wv x y = a * b → K x y u) : C.wide_Mul a b u K := by
  apply vc.wide_Mul
  refine spec.bits_Mul64 ha hb (h _ _ ?_ ?_ ?_)
  · obtain ⟨h1, h2⟩ := ha
    obtain ⟨h3, h4⟩ := hb
    have := Int.mul_nonneg h1 h3
    have : a * b ≤ 18446744073709551615 * 18446744073709551615 := Int.mul_le_mul (by omega) (by omega) h3 (by omega)
    constructor <;> omega
  · constructor <;> omega
  · unfold wv; omega

/-- A coordinate as it must be. -/
def coordOk (x : Int) : Prop := -2147483647 ≤ x ∧ x ≤ 2147483647
instance (x : Int) : Decidable (coordOk x) := inferInstanceAs (Decidable (_ ∧ _))

/-- The square of a difference. -/
def sqd (x y : Int) : Int := (x - y) * (x - y)

theorem spec.vec_plus {a b x y : Int} {u : H} {K : Int → Int → H → Prop} (ha : U64 a) (hb : U64 b) (hx : coordOk x) (hy : coordOk y)
    (hs : wv a b + 18446744073709551616 < 340282366920938463463374607431768211456)
    (h : ∀ c d, U64 c → U64 d → wv c d = wv a b + sqd x y → K c d u) : C.vec_plus a b x y u K := by
  apply vc.vec_plus
  have e : (ite (y > x) y x) - (ite (y < x) y x) = if x < y then y - x else x - y := by (repeat' split) <;> omega
  rw [e]
  unfold coordOk at hx hy
  have d1 : ∃ z : Int, z = (if x < y then y - x else x - y) ∧ 0 ≤ z ∧ z ≤ 4294967294 ∧ z * z = sqd x y := by
    refine ⟨_, rfl, ?_, ?_, ?_⟩
    · split <;> omega
    · split <;> omega
    · unfold sqd; split <;> grind
  obtain ⟨z, hz, h0, h2, h3⟩ := d1
  rw [← hz]
  refine ⟨⟨by omega, by omega⟩, ?_⟩
  have hw : IntKind.wrap .u64 z = z := IntWalk.u64_in z ⟨h0, by omega⟩
  rw [hw]
  have hz : U64 z := ⟨h0, by omega⟩
  refine spec.wide_Mul hz hz fun p q hp hq he => ⟨H.le.refl u, ?_⟩
  have hzz : 0 ≤ z * z ∧ z * z ≤ 18446744056529682436 := ⟨Int.mul_nonneg h0 h0, by have := Int.mul_le_mul h2 h2 h0 (by omega); omega⟩
  refine spec.wide_Add ha hb hp hq (fun c d hc hd hcd => h c d hc hd (by rw [hcd, he, h3])) fun hh => ?_
  exfalso
  omega

theorem sqd_le {x y : Int} (hx : coordOk x) (hy : coordOk y) : 0 ≤ sqd x y ∧ sqd x y ≤ 18446744056529682436 := by
  unfold coordOk at hx hy
  unfold sqd
  constructor
  · rcases Int.le_total 0 (x - y) with h | h
    · exact Int.mul_nonneg h h
    · exact Int.mul_nonneg_of_nonpos_of_nonpos h h
  · rcases Int.le_total 0 (x - y) with h | h
    · have := Int.mul_le_mul (show x - y ≤ 4294967294 by omega) (show x - y ≤ 4294967294 by omega) h (by omega); omega
    · have e : (x - y) * (x - y) = (y - x) * (y - x) := by grind
      have := Int.mul_le_mul (show y - x ≤ 4294967294 by omega) (show y - x ≤ 4294967294 by omega) (by omega) (by omega); omega

/-! ### layer 3 -/

/-- What a vector's test answers. -/
def vcheck (l : List Int) (d : Int) : Int :=
  if 1 ≤ d ∧ d ≤ 64 ∧ (l.length : Int) = d then (if ∀ i, i < l.length → coordOk (l.getD i 0) then 0 else 31) else 30

theorem spec.vec_dim {d : Int} {u : H} {K : Bool → H → Prop} (h : K (decide (1 ≤ d ∧ d ≤ 64)) u) : C.vec_dim d u K := by
  apply vc.vec_dim
  refine ⟨fun h1 => ?_, fun h1 => ?_⟩
  · have : @decide (d ≤ 64) (@inferInstance _ (Int.decLe d 64)) = decide (1 ≤ d ∧ d ≤ 64) := by simp [h1]
    rw [this]; exact h
  · have : decide (1 ≤ d ∧ d ≤ 64) = false := by simp; omega
    rw [this] at h; exact h

theorem spec.vec_Check {s : Sl} {l : List Int} {d : Int} {u : H} {K : Int → H → Prop} (hs : Ints u s l) (h : K (vcheck l d) u) : C.vec_Check s d u K := by
  have key : ∀ z, vcheck l d = z → K z u := fun z e => e ▸ h
  have hn := hs.len
  have hmx := hs.max
  apply vc.vec_Check
  intro K0 hK0
  refine spec.vec_dim ⟨fun hb => key _ ?_, fun hb => ⟨fun hl => key _ ?_, fun hl => hK0 _ _ ?_⟩⟩
  · have : ¬ (1 ≤ d ∧ d ≤ 64) := by simpa using hb
    unfold vcheck; rw [if_neg (fun h => this ⟨h.1, h.2.1⟩)]
  · unfold vcheck; rw [if_neg (fun h => hl (by rw [hn]; exact h.2.2))]
  · have hd : 1 ≤ d ∧ d ≤ 64 := by simpa using hb
    have hv : vcheck l d = if ∀ i, i < l.length → coordOk (l.getD i 0) then 0 else 31 := by unfold vcheck; rw [if_pos ⟨hd.1, hd.2, by rw [← hl, hn]⟩]
    refine ⟨fun _ i u' => u' = u ∧ 0 ≤ i ∧ i ≤ (s.n : Int) ∧ ∀ j, j < i.toNat → coordOk (l.getD j 0), fun _ i _ => s.n - i.toNat, ⟨rfl, by omega, by omega, fun j hj => by simp at hj⟩, ?_⟩
    rintro _ i u' ⟨rfl, h0, h1, hp⟩
    refine ⟨fun hi => ?_, fun hi => key _ ?_⟩
    · obtain ⟨p, hp', hc⟩ := hs.at h0 hi
      have bad : ¬ coordOk (l.getD i.toNat 0) → K 31 u' := fun hb => key _ (by rw [hv, if_neg (fun hall => hb (hall _ (by omega)))])
      refine ⟨p, hp', ⟨h0, hi⟩, _, hc, fun hx => bad (fun hb => by unfold coordOk at hb; omega), fun hx => ⟨fun hy => bad (fun hb => by unfold coordOk at hb; omega), fun hy => ⟨⟨by omega, by omega⟩, ⟨rfl, by omega, by omega, ?_⟩, by dsimp only; omega⟩⟩⟩
      intro j hj
      rcases Nat.lt_or_ge j i.toNat with hj' | hj'
      · exact hp j hj'
      · have : j = i.toNat := by omega
        subst this
        exact ⟨by omega, by omega⟩
    · rw [hv, if_pos]
      intro j hj
      exact hp j (by omega)

/-- The sum of the squares of the first n differences. -/
def sqTo (a b : List Int) : Nat → Int
  | 0 => 0
  | n + 1 => sqTo a b n + sqd (a.getD n 0) (b.getD n 0)

/-- A vector as it must be. -/
def vok (l : List Int) : Prop := l.length ≤ 64 ∧ ∀ i, i < l.length → coordOk (l.getD i 0)

theorem sqTo_le {a b : List Int} (ha : vok a) (hb : vok b) : ∀ n, n ≤ a.length → n ≤ b.length → 0 ≤ sqTo a b n ∧ sqTo a b n ≤ n * 18446744056529682436 := by
  intro n
  induction n with
  | zero => intro _ _; simp [sqTo]
  | succ n ih =>
    intro h1 h2
    obtain ⟨i1, i2⟩ := ih (by omega) (by omega)
    have := sqd_le (ha.2 n (by omega)) (hb.2 n (by omega))
    simp only [sqTo]
    constructor <;> omega

theorem spec.vec_far {s t : Sl} {a b : List Int} {u : H} {K : Int → Int → H → Prop} (hs : Ints u s a) (ht : Ints u t b) (ha : vok a) (hb : vok b) (hl : a.length = b.length)
    (h : ∀ x y, U64 x → U64 y → wv x y = sqTo a b a.length → K x y u) : C.vec_far s t u K := by
  have hn := hs.len
  have hm := ht.len
  have h64 := ha.1
  apply vc.vec_far
  refine ⟨fun i x y u' => u' = u ∧ 0 ≤ i ∧ i ≤ (s.n : Int) ∧ U64 x ∧ U64 y ∧ wv x y = sqTo a b i.toNat, fun i _ _ _ => s.n - i.toNat, ⟨rfl, by omega, by omega, ⟨by omega, by omega⟩, ⟨by omega, by omega⟩, rfl⟩, ?_⟩
  rintro i x y u' ⟨rfl, h0, h1, hx, hy, hw⟩
  refine ⟨fun hi => ?_, fun hi => ?_⟩
  · obtain ⟨p, hp, hc⟩ := hs.at h0 hi
    obtain ⟨q, hq, hd⟩ := ht.at h0 (show i < (t.n : Int) by omega)
    have hle := sqTo_le ha hb i.toNat (by omega) (by omega)
    refine ⟨p, hp, ⟨h0, hi⟩, q, hq, ⟨h0, by omega⟩, _, hc, _, hd, spec.vec_plus hx hy (ha.2 _ (by omega)) (hb.2 _ (by omega)) (by omega) fun c d hc hd hcd => ⟨⟨by omega, by omega⟩, ⟨rfl, by omega, by omega, hc, hd, ?_⟩, by dsimp only; omega⟩⟩
    rw [hcd, hw, show (i + 1).toNat = i.toNat + 1 by omega]
    rfl
  · have : i.toNat = a.length := by omega
    exact h x y hx hy (by rw [hw, this])

end Go.Proofs.YtbohcdjoglidhaaGreatDoor

/- VcHits -/
namespace Go.Proofs.YtbohcdjoglidhaaGreatDoor

/-- A hit: an id, and a distance. -/
abbrev Hit := Int × Int

def hlt (a b : Hit) : Bool := decide (a.2 < b.2) || (decide (a.2 = b.2) && decide (a.1 < b.1))

theorem hlt_iff {a b : Hit} : hlt a b = true ↔ a.2 < b.2 ∨ (a.2 = b.2 ∧ a.1 < b.1) := by simp [hlt]
theorem hlt_not {a b : Hit} : hlt a b = false ↔ b.2 < a.2 ∨ (b.2 = a.2 ∧ b.1 ≤ a.1) := by
  rw [← Bool.not_eq_true, hlt_iff]; omega

theorem hlt_irrefl (a : Hit) : hlt a a = false := hlt_not.2 (.inr ⟨rfl, Int.le_refl _⟩)
theorem hlt_asymm {a b : Hit} (h : hlt a b = true) : hlt b a = false := by rw [hlt_iff] at h; rw [hlt_not]; omega
theorem hlt_le_trans {a b c : Hit} (h : hlt b a = false) (k : hlt c b = false) : hlt c a = false := by rw [hlt_not] at *; omega
theorem hlt_lt_trans {a b c : Hit} (h : hlt a b = true) (k : hlt b c = true) : hlt a c = true := by rw [hlt_iff] at *; omega
theorem hlt_lt_le {a b c : Hit} (h : hlt a b = true) (k : hlt c b = false) : hlt a c = true := by rw [hlt_iff] at *; rw [hlt_not] at k; omega
theorem hlt_le_lt {a b c : Hit} (h : hlt b a = false) (k : hlt b c = true) : hlt a c = true := by rw [hlt_iff] at *; rw [hlt_not] at h; omega
theorem hlt_eq {a b : Hit} (h : hlt b a = false) (k : hlt a b = false) : a = b := by
  rw [hlt_not] at *
  obtain ⟨a1, a2⟩ := a
  obtain ⟨b1, b2⟩ := b
  simp only [Prod.mk.injEq] at *
  omega

/-- In their order. -/
def Srt (l : List Hit) : Prop := l.Pairwise fun a b => hlt b a = false

theorem Srt.eq {a b : List Hit} (ha : Srt a) (hb : Srt b) (h : a.Perm b) : a = b :=
  h.eq_of_pairwise (le := fun x y => hlt y x = false) (fun _ _ _ _ h k => hlt_eq h k) ha hb

def insH (h : Hit) : List Hit → List Hit
  | [] => [h]
  | x :: l => if hlt h x then h :: x :: l else x :: insH h l

def sortH : List Hit → List Hit
  | [] => []
  | h :: l => insH h (sortH l)

theorem insH_perm (h : Hit) (l : List Hit) : (insH h l).Perm (h :: l) := by
  induction l with
  | nil => exact .refl _
  | cons x l ih =>
    simp only [insH]
    split
    · exact .refl _
    · exact ((List.Perm.cons x ih).trans (List.Perm.swap h x l))

theorem insH_srt {h : Hit} {l : List Hit} (hl : Srt l) : Srt (insH h l) := by
  induction l with
  | nil => exact List.pairwise_singleton _ _
  | cons x l ih =>
    have h1 := List.pairwise_cons.1 hl
    simp only [insH]
    split
    · rename_i hx
      refine List.pairwise_cons.2 ⟨fun y hy => ?_, hl⟩
      rcases List.mem_cons.1 hy with rfl | hy
      · exact hlt_asymm hx
      · exact hlt_le_trans (hlt_asymm hx) (h1.1 y hy)
    · rename_i hx
      refine List.pairwise_cons.2 ⟨fun y hy => ?_, ih h1.2⟩
      rcases List.mem_cons.1 ((insH_perm h l).mem_iff.1 hy) with rfl | hy
      · simpa using hx
      · exact h1.1 y hy

theorem sortH_perm (l : List Hit) : (sortH l).Perm l := by
  induction l with
  | nil => exact .refl _
  | cons x l ih => exact (insH_perm x _).trans (List.Perm.cons x ih)

theorem sortH_srt (l : List Hit) : Srt (sortH l) := by
  induction l with
  | nil => exact List.Pairwise.nil
  | cons x l ih => exact insH_srt ih

theorem sortH_eq {a b : List Hit} (h : a.Perm b) : sortH a = sortH b :=
  (sortH_srt a).eq (sortH_srt b) ((sortH_perm a).trans (h.trans (sortH_perm b).symm))

theorem sortH_of {a b : List Hit} (h : a.Perm b) (hs : Srt a) : a = sortH b := hs.eq (sortH_srt b) (h.trans (sortH_perm b).symm)

theorem sortH_len (l : List Hit) : (sortH l).length = l.length := (sortH_perm l).length_eq

/-- The first so many. -/
def topk (k : Nat) (l : List Hit) : List Hit := (sortH l).take k

theorem topk_srt (k : Nat) (l : List Hit) : Srt (topk k l) := List.Pairwise.sublist (List.take_sublist _ _) (sortH_srt l)
theorem topk_len (k : Nat) (l : List Hit) : (topk k l).length = min k l.length := by simp [topk, sortH_len]
theorem topk_eq {k : Nat} {a b : List Hit} (h : a.Perm b) : topk k a = topk k b := by simp only [topk, sortH_eq h]

theorem Srt.append {a b : List Hit} (h : Srt (a ++ b)) : Srt a ∧ Srt b ∧ ∀ x ∈ a, ∀ y ∈ b, hlt y x = false := List.pairwise_append.1 h

theorem insH_take (h : Hit) : ∀ (k : Nat) (l : List Hit), (insH h l).take k = (insH h (l.take k)).take k := by
  intro k l
  induction l generalizing k with
  | nil => simp
  | cons x l ih =>
    cases k with
    | zero => simp
    | succ k =>
      simp only [insH, List.take_succ_cons]
      split
      · simp only [List.take_succ_cons]
        cases k with
        | zero => simp
        | succ k => simp only [List.take_succ_cons, List.take_take]; congr 3; omega
      · simp only [List.take_succ_cons, ih k]

theorem topk_cons (k : Nat) (x : Hit) (l : List Hit) : topk k (x :: l) = topk k (x :: topk k l) := by
  have h : sortH (topk k l) = topk k l := (sortH_of (.refl _) (topk_srt k l)).symm
  show (insH x (sortH l)).take k = (insH x (sortH (topk k l))).take k
  rw [h, insH_take]
  rfl

/-- A heap's list that holds the first k: one more is offered, and there is room. -/
theorem topk_room {k : Nat} {l : List Hit} {x : Hit} (h : l.length < k) : (topk k (x :: l)).Perm (x :: l) ∧ (topk k l).Perm l := by
  have e : ∀ m : List Hit, m.length ≤ k → topk k m = sortH m := fun m hm => List.take_of_length_le (by rw [sortH_len]; exact hm)
  rw [e _ (by simp; omega), e _ (by omega)]
  exact ⟨sortH_perm _, sortH_perm _⟩

/-- No room, and not below the worst. -/
theorem topk_worse {k : Nat} {l : List Hit} {x : Hit} (hk : k ≤ l.length) (h : ∀ y ∈ topk k l, hlt x y = false) : topk k (x :: l) = topk k l := by
  show (insH x (sortH l)).take k = (sortH l).take k
  have key : ∀ (k : Nat) (s : List Hit), k ≤ s.length → (∀ y ∈ s.take k, hlt x y = false) → (insH x s).take k = s.take k := by
    intro k s
    induction s generalizing k with
    | nil => intro hk _; have : k = 0 := by simpa using hk
             subst this; simp
    | cons y s ih =>
      intro hk h
      cases k with
      | zero => simp
      | succ k =>
        have h0 := h y (by simp)
        simp only [insH, h0, Bool.false_eq_true, if_false, List.take_succ_cons]
        rw [ih k (by simpa using hk) (fun z hz => h z (by simp [hz]))]
  exact key k _ (by rw [sortH_len]; exact hk) h

/-- No room, and below the worst, which goes. -/
theorem topk_better {k : Nat} {l t : List Hit} {x m : Hit} (hp : (m :: t).Perm (topk k l)) (hm : ∀ y ∈ m :: t, hlt m y = false) (hx : hlt x m = true) (hk : (topk k l).length = k) :
    (x :: t).Perm (topk k (x :: l)) := by
  rw [topk_cons]
  have h1 : topk k (x :: topk k l) = topk k (m :: x :: t) := topk_eq ((List.Perm.cons x hp.symm).trans (List.Perm.swap _ _ _))
  have hl : t.length + 1 = k := by rw [← hk, ← hp.length_eq]; simp
  have h2 : topk k (m :: x :: t) = topk k (x :: t) := by
    refine topk_worse (by simp [hl]) fun y hy => ?_
    have : y ∈ x :: t := (sortH_perm _).mem_iff.1 (List.mem_of_mem_take hy)
    rcases List.mem_cons.1 this with rfl | h
    · exact hlt_asymm hx
    · exact hm y (by simp [h])
  rw [h1, h2]
  have e : topk k (x :: t) = sortH (x :: t) := List.take_of_length_le (by rw [sortH_len]; simp [hl])
  rw [e]
  exact (sortH_perm _).symm

end Go.Proofs.YtbohcdjoglidhaaGreatDoor

/- VcRef -/
namespace Go.Proofs.YtbohcdjoglidhaaGreatDoor

/-! ### what is left behind by a call that nobody needs to know of -/

theorem Step.shrink {u u' : H} {bs bs' : List Nat} {w w' : World} (h : Step u bs w u' bs' w') (k : u.le u') : Step u bs w u bs' w' :=
  ⟨h.sub.mono k, h.os, h.tape, h.output, h.drawn, h.size, h.rest, fun _ _ e => e, h.more⟩

def kF (u : H) : (ts : List CT) → Cur ts (H → Prop) → Cur ts (H → Prop)
  | [], r => fun u' => u.le u' ∧ r u
  | _ :: ts, K => fun x => kF u ts (K x)

theorem unC_kF {u u' : H} : ∀ (ts : List CT) (K : Cur ts (H → Prop)) (vs : List Value), (unC ts (kF u ts K) vs fun r => r u') → Kinds ts vs → u.le u' ∧ unC ts K vs fun r => r u := by
  intro ts
  induction ts with
  | nil => intro K vs h k; cases k; exact h
  | cons t ts ih =>
    intro K vs h k
    cases k with
    | cons x kr =>
      simp only [unC, CT.un_enc] at h ⊢
      exact ih (K x) _ h kr

theorem ClT.forget {P : Program} {f : FuncId} {args : Array Value} {ss : List Sh} {u : H} {K : Cur (ctsOf ss) (H → Prop)} (h : ClT P f args ss u (kF u (ctsOf ss) K)) : ClT P f args ss u K := by
  intro w hw
  refine (h w hw).mono ?_
  rintro e w' ⟨v, u', he, ⟨vs, hk, hv, hc⟩, hs⟩
  obtain ⟨hle, hc'⟩ := unC_kF _ _ _ hc hk
  exact ⟨v, u, he, ⟨vs, hk, hv, hc'⟩, hs.shrink hle⟩

/-! ### numbers as digits -/

theorem H.ins_ins (u : H) (n : Nat) (a b : Obj) : (u.ins n a).ins n b = u.ins n b := by
  funext x; unfold H.ins; split <;> rfl

end Go.Proofs.YtbohcdjoglidhaaGreatDoor

/- VcRows -/
namespace Go.Proofs.YtbohcdjoglidhaaGreatDoor

theorem Addr.add_zero' (p : Addr) : p.add 0 = p := rfl

/-! ### hits -/

def hiW (d : Int) : Int := d / 18446744073709551616
def loW (d : Int) : Int := d % 18446744073709551616

/-- A distance as it must be. -/
def Dok (d : Int) : Prop := 0 ≤ d ∧ d < 340282366920938463463374607431768211456

theorem wv_hl (d : Int) : wv (hiW d) (loW d) = d := by unfold wv hiW loW; omega
theorem loU (d : Int) : U64 (loW d) := by unfold U64 loW; omega
theorem hiU {d : Int} (h : Dok d) : U64 (hiW d) := by unfold Dok at h; unfold U64 hiW; omega
theorem hi_wv {x y : Int} (hy : U64 y) : hiW (wv x y) = x := by unfold U64 at hy; unfold hiW wv; omega
theorem lo_wv {x y : Int} (hy : U64 y) : loW (wv x y) = y := by unfold U64 at hy; unfold loW wv; omega
theorem Dok_wv {x y : Int} (hx : U64 x) (hy : U64 y) : Dok (wv x y) := by unfold U64 at hx hy; unfold Dok wv; omega

def encH (h : Hit) : List Value := [.int .i64 h.1, .int .u64 (hiW h.2), .int .u64 (loW h.2)]
theorem encH_len (h : Hit) : (encH h).length = 3 := rfl
theorem encH_one (h : Hit) : ∀ v ∈ encH h, v.oneCell' = true := by simp [encH, Value.oneCell']

theorem hit_eq {a b : Hit} : (a.1 = b.1 ∧ hiW a.2 = hiW b.2 ∧ loW a.2 = loW b.2) ↔ a = b := by
  constructor
  · rintro ⟨h1, h2, h3⟩
    have : a.2 = b.2 := by rw [← wv_hl a.2, ← wv_hl b.2, h2, h3]
    exact Prod.ext h1 this
  · rintro rfl; exact ⟨rfl, rfl, rfl⟩

/-- A slice of hits. -/
def Hts (u : H) (s : Sl) (l : List Hit) : Prop := Seg u s 3 (l.flatMap encH)

theorem Hts.len {u : H} {s : Sl} {l : List Hit} (h : Hts u s l) : s.n = l.length := flat_n encH_len (by decide) h
theorem Hts.max {u : H} {s : Sl} {l : List Hit} (h : Hts u s l) : s.n ≤ 9223372036854775807 := Nat.le_trans (Seg.cap h) (Seg.max h)
theorem Hts.mono {u u' : H} {s : Sl} {l : List Hit} (h : Hts u s l) (k : u.le u') : Hts u' s l := Seg.mono h k

theorem Hts.at {u : H} {s : Sl} {l : List Hit} (h : Hts u s l) {x : Int} (h0 : 0 ≤ x) (h1 : x < (s.n : Int)) : ∃ p, s.a = some p ∧ ∃ q : Hit, l[x.toNat]? = some q ∧
    u.cell? (p.add (x.toNat * 3)) = some (.int .i64 q.1) ∧ u.cell? ((p.add (x.toNat * 3)).add 1) = some (.int .u64 (hiW q.2)) ∧ u.cell? ((p.add (x.toNat * 3)).add 2) = some (.int .u64 (loW q.2)) := by
  have hn := h.len
  have hl : x.toNat < l.length := by omega
  obtain ⟨p, hp, hc⟩ := Seg.elem encH_len (by decide) h (List.getElem?_eq_getElem hl)
  exact ⟨p, hp, _, List.getElem?_eq_getElem hl, hc 0 _ rfl, hc 1 _ rfl, hc 2 _ rfl⟩

/-! ### rows -/

structure Rw where
  id : Int
  s : Sl
  v : List Int

def encR (r : Rw) : List Value := [.int .i64 r.id, .slice r.s.a r.s.n r.s.c]
theorem encR_len (r : Rw) : (encR r).length = 2 := rfl
theorem encR_one (r : Rw) : ∀ v ∈ encR r, v.oneCell' = true := by simp [encR, Value.oneCell']

def Rws (u : H) (s : Sl) (l : List Rw) : Prop := Seg u s 2 (l.flatMap encR) ∧ ∀ r ∈ l, Ints u r.s r.v

theorem Rws.len {u : H} {s : Sl} {l : List Rw} (h : Rws u s l) : s.n = l.length := flat_n encR_len (by decide) h.1
theorem Rws.max {u : H} {s : Sl} {l : List Rw} (h : Rws u s l) : s.n ≤ 9223372036854775807 := Nat.le_trans (Seg.cap h.1) (Seg.max h.1)
theorem Rws.mono {u u' : H} {s : Sl} {l : List Rw} (h : Rws u s l) (k : u.le u') : Rws u' s l := ⟨Seg.mono h.1 k, fun r hr => (h.2 r hr).mono k⟩

theorem Rws.at {u : H} {s : Sl} {l : List Rw} (h : Rws u s l) {x : Int} (h0 : 0 ≤ x) (h1 : x < (s.n : Int)) : ∃ p, s.a = some p ∧ ∃ q : Rw, l[x.toNat]? = some q ∧
    u.cell? (p.add (x.toNat * 2)) = some (.int .i64 q.id) ∧ u.cell? ((p.add (x.toNat * 2)).add 1) = some (.slice q.s.a q.s.n q.s.c) ∧ Ints u q.s q.v := by
  have hn := h.len
  have hl : x.toNat < l.length := by omega
  obtain ⟨p, hp, hc⟩ := Seg.elem encR_len (by decide) h.1 (List.getElem?_eq_getElem hl)
  exact ⟨p, hp, _, List.getElem?_eq_getElem hl, hc 0 _ rfl, hc 1 _ rfl, h.2 _ (List.getElem_mem hl)⟩

/-! ### comparisons -/

theorem spec.cmp_Compare_int_ {a b : Int} {u : H} {K : Int → H → Prop} (h : K (if a < b then -1 else if b < a then 1 else 0) u) : C.cmp_Compare_int_ a b u K := by
  have key : ∀ z, (if a < b then (-1 : Int) else if b < a then 1 else 0) = z → K z u := fun z e => e ▸ h
  apply vc.cmp_Compare_int_
  apply vc.cmp_isNaN_int_
  apply vc.cmp_isNaN_int_
  simp only [decide_true, Bool.not_true]
  refine ⟨fun h => by simp at h, fun _ => ⟨fun h => by simp at h, fun _ => ⟨fun h1 => key _ (by simp [h1]), fun h1 => ⟨fun h2 => key _ (by simp [h1, h2]), fun h2 => key _ (by simp [h1, h2])⟩⟩⟩⟩

theorem spec.cmp_Or_int_ {s : Sl} {a b : Int} {u : H} {K : Int → H → Prop} (hs : Ints u s [a, b]) (h : K (if a ≠ 0 then a else b) u) : C.cmp_Or_int_ s u K := by
  have hn := hs.len
  simp only [List.length_cons, List.length_nil, Nat.zero_add, Nat.reduceAdd] at hn
  apply vc.cmp_Or_int_
  refine ⟨fun _ i v => v = u ∧ 0 ≤ i ∧ i ≤ 2 ∧ (0 < i → a = 0) ∧ (1 < i → b = 0), fun _ i _ => (2 - i).toNat, ⟨rfl, by omega, by omega, by omega, by omega⟩, ?_⟩
  rintro _ i v ⟨rfl, h0, h1, h2, h3⟩
  refine ⟨fun hi => ?_, fun hi => ?_⟩
  · obtain ⟨p, hp, hc⟩ := hs.at h0 hi
    refine ⟨p, hp, ⟨h0, hi⟩, _, hc, ?_⟩
    have hc : i = 0 ∨ i = 1 := by omega
    rcases hc with rfl | rfl
    · refine ⟨fun hne => ?_, fun he => ⟨⟨by omega, by omega⟩, ⟨rfl, by omega, by omega, fun _ => he, by omega⟩, by dsimp only; omega⟩⟩
      have hne : a ≠ 0 := hne
      rw [if_pos hne] at h; exact h
    · have ha := h2 (by omega)
      rw [if_neg (by omega)] at h
      refine ⟨fun hne => h, fun he => ⟨⟨by omega, by omega⟩, ⟨rfl, by omega, by omega, fun _ => ha, fun _ => he⟩, by dsimp only; omega⟩⟩
  · have ha := h2 (by omega)
    have hb := h3 (by omega)
    rw [if_neg (by omega), hb] at h
    exact h

theorem tInts : elemT Tryz.prog 22 = some (3, 1, 8, [.int .i64 0]) := by kernel_rfl

theorem build_ints2 (a b : Int) : buildOf Tryz.prog 22 2 #[(0, .int .i64 a), (1, .int .i64 b)] = some (3, [.int .i64 a, .int .i64 b]) := by kernel_rfl

theorem ints_made {u0 u : H} (h : u0.le u) {g : Nat} (hg : u g = none) (l : List Int) (e : TypeId) (hl : l.length ≤ 9223372036854775807) :
    Ints (u.ins g (.cells (l.map fun x => Value.int .i64 x).toArray e (0, 0))) ⟨some ⟨g, 0, none⟩, l.length, l.length⟩ l := by
  have := (OwnF.make (k := 1) h hg (cells := (l.map fun x => Value.int .i64 x).toArray) (e := e) (n := l.length) hl (by simp)).own.seg
  simpa [Ints] using this

theorem spec.topk_compare {a b : Hit} {u : H} {K : Int → H → Prop} (h : ∀ z : Int, (z < 0 ↔ hlt a b = true) → (0 < z ↔ hlt b a = true) → -1 ≤ z → z ≤ 1 → K z u) : C.topk_compare a.1 (hiW a.2) (loW a.2) b.1 (hiW b.2) (loW b.2) u K := by
  refine ClT.forget (ss := [.one (.int .i64)]) ?_
  apply vc.topk_compare
  refine spec.wide_Cmp (loU _) (loU _) ⟨H.le.refl _, spec.cmp_Compare_int_ (sem_build (build_ints2 _ _) fun g hg => ?_)⟩
  refine spec.cmp_Or_int_ (ints_made (H.le.refl u) hg [_, _] 3 (by simp)) ⟨H.le_ins _ hg, h _ ?_ ?_ ?_ ?_⟩
  · rw [wv_hl, wv_hl, hlt_iff]
    (repeat' split) <;> omega
  · rw [wv_hl, wv_hl, hlt_iff]
    (repeat' split) <;> omega
  · (repeat' split) <;> omega
  · (repeat' split) <;> omega

theorem spec.topk_Less {a b : Hit} {u : H} {K : Bool → H → Prop} (h : K (hlt a b) u) : C.topk_Less a.1 (hiW a.2) (loW a.2) b.1 (hiW b.2) (loW b.2) u K := by
  apply vc.topk_Less
  refine spec.topk_compare fun z hz _ _ _ => ?_
  have : decide (z < 0) = hlt a b := by
    cases hb : hlt a b <;> simp [hz, hb]
  rw [this]; exact h

/-! ### lists of hits compared -/

theorem spec.theodolitekeep_Hits {s t : Sl} {a b : List Hit} {u : H} {K : Bool → H → Prop} (hs : Hts u s a) (ht : Hts u t b) (h : K (decide (a = b)) u) : C.theodolitekeep_Hits s t u K := by
  have key : ∀ z, decide (a = b) = z → K z u := fun z e => e ▸ h
  have hn := hs.len
  have hm := ht.len
  have hmx := hs.max
  apply vc.theodolitekeep_Hits
  refine ⟨fun hne => key _ ?_, fun he => ?_⟩
  · have : a ≠ b := fun e => hne (by rw [hn, hm, e])
    simp [this]
  · refine ⟨fun _ i v => v = u ∧ 0 ≤ i ∧ i ≤ (s.n : Int) ∧ a.take i.toNat = b.take i.toNat, fun _ i _ => s.n - i.toNat, ⟨rfl, by omega, by omega, by simp⟩, ?_⟩
    rintro _ i v ⟨rfl, h0, h1, hp⟩
    refine ⟨fun hi => ?_, fun hi => key _ ?_⟩
    · obtain ⟨p, hp1, x, hx, c0, c1, c2⟩ := hs.at h0 hi
      obtain ⟨q, hq1, y, hy, d0, d1, d2⟩ := ht.at h0 (show i < (t.n : Int) by omega)
      refine ⟨p, hp1, ⟨h0, hi⟩, q, hq1, ⟨h0, by omega⟩, _, c0, _, c1, _, c2, _, d0, _, d1, _, d2, fun hne => key _ ?_, fun hxy => ⟨⟨by omega, by omega⟩, ⟨rfl, by omega, by omega, ?_⟩, by dsimp only; omega⟩⟩
      · have hxy : x ≠ y := fun e => hne (hit_eq.2 e)
        have : a ≠ b := fun e => by rw [e, hy] at hx; cases hx; exact hxy rfl
        simp [this]
      · have : x = y := hit_eq.1 hxy
        have e1 : (i + 1).toNat = i.toNat + 1 := by omega
        rw [e1, List.take_add_one, List.take_add_one, hp, hx, hy, this]
    · have e1 : i.toNat = a.length := by omega
      rw [e1, List.take_length, ← hn, show s.n = b.length by omega, List.take_length] at hp
      simp [hp]

/-! ### rows as they must be -/

/-- What rows' tests answer, some ids being taken already. -/
def rchk (d : Int) : List Int → List Rw → Int
  | _, [] => 0
  | seen, r :: l => if r.id < 1 ∨ 1000000000 < r.id ∨ r.id ∈ seen then 50 else if vcheck r.v d ≠ 0 then vcheck r.v d else rchk d (seen ++ [r.id]) l

def rcheck (l : List Rw) (d : Int) : Int := if d < 1 ∨ 64 < d then 30 else if 512 < l.length then 2 else rchk d [] l

theorem rchk_step {d : Int} {l : List Rw} {i : Nat} {r : Rw} (h : l[i]? = some r) : rchk d ((l.take i).map (·.id)) (l.drop i) =
    if r.id < 1 ∨ 1000000000 < r.id ∨ r.id ∈ (l.take i).map (·.id) then 50 else if vcheck r.v d ≠ 0 then vcheck r.v d else rchk d ((l.take (i + 1)).map (·.id)) (l.drop (i + 1)) := by
  have hi : i < l.length := (List.getElem?_eq_some_iff.1 h).1
  have hr : l[i] = r := (List.getElem?_eq_some_iff.1 h).2
  rw [List.drop_eq_getElem_cons hi, hr]
  simp only [rchk]
  rw [List.take_add_one, h]
  simp

end Go.Proofs.YtbohcdjoglidhaaGreatDoor

/- VcHits2 -/
namespace Go.Proofs.YtbohcdjoglidhaaGreatDoor

/-! ### checks -/

theorem setTy : SetTy Tryz.prog 99 3 4 := ⟨by kernel_rfl, by kernel_rfl, fun _ => by kernel_rfl⟩

theorem spec.flat_Check {s : Sl} {l : List Rw} {d : Int} {u : H} {K : Int → H → Prop} (hs : Rws u s l) (h : K (rcheck l d) u) : C.flat_Check s d u K := by
  have key : ∀ z, rcheck l d = z → K z u := fun z e => e ▸ h
  have hn := hs.len
  have hmx := hs.max
  refine ClT.forget (ss := [.one (.int .i64)]) ?_
  apply vc.flat_Check
  intro K0 hK0
  have hle := H.le.refl u
  refine ⟨fun h1 => ⟨hle, key _ (if_pos (.inl h1))⟩, fun h1 => ⟨fun h2 => ⟨hle, key _ (if_pos (.inr h2))⟩, fun h2 => ⟨fun h3 => ⟨hle, key _ ?_⟩, fun h3 => hK0 _ _ ?_⟩⟩⟩
  · unfold rcheck; rw [if_neg (by omega), if_pos (by omega)]
  have hr : rcheck l d = rchk d [] l := by unfold rcheck; rw [if_neg (by omega), if_neg (by omega)]
  rw [hr] at key
  clear hK0 K0
  refine sem_makeMap fun b hb hset => ?_
  refine ⟨fun _ i v => 0 ≤ i ∧ i ≤ (s.n : Int) ∧ u.le v ∧ SetOf v b ((l.take i.toNat).map (·.id)) ∧ rchk d ((l.take i.toNat).map (·.id)) (l.drop i.toNat) = rchk d [] l, fun _ i _ => s.n - i.toNat,
    ⟨by omega, by omega, H.le_ins _ hb, by simpa using hset, by simp⟩, ?_⟩
  rintro _ i v ⟨h0, hi1, hv, hset, hp⟩
  refine ⟨fun hi => ?_, fun hi => ⟨hv, key _ ?_⟩⟩
  · obtain ⟨p, hp1, r, hr', c0, c1, hiv⟩ := (hs.mono hv).at h0 hi
    rw [rchk_step hr'] at hp
    refine ⟨p, hp1, ⟨h0, hi⟩, _, c0, _, c1, fun K13 hK13 => ⟨fun h4 => ⟨hv, key _ ?_⟩, fun h4 => ⟨fun h5 => ⟨hv, key _ ?_⟩, fun h5 => sem_lookup setTy hset ⟨fun h6 => ⟨hv, key _ ?_⟩, fun h6 => hK13 _ _ ?_⟩⟩⟩⟩
    · rw [if_pos (.inl h4)] at hp; exact hp.symm
    · rw [if_pos (.inr (.inl h5))] at hp; exact hp.symm
    · rw [if_pos (.inr (.inr (by simpa using h6)))] at hp; exact hp.symm
    · have h6 : r.id ∉ (l.take i.toNat).map (·.id) := by simpa using h6
      rw [if_neg (fun h => h.elim (fun h => by omega) fun h => h.elim (fun h => by omega) fun h => h6 h)] at hp
      refine spec.vec_Check hiv ⟨fun hne => ⟨hv, key _ ?_⟩, fun he => sem_mapAdd setTy hset h6 fun v' hset' hkeep _ => ⟨⟨by omega, by omega⟩, ⟨by omega, by omega, ?_, ?_, ?_⟩, by dsimp only; omega⟩⟩
      · rw [if_pos hne] at hp; exact hp.symm
      · exact fun g o hg => hkeep g o (hv g o hg) (fun e => by rw [e, hb] at hg; cases hg)
      · rw [show (i + 1).toNat = i.toNat + 1 by omega, List.take_add_one, hr']
        simpa using hset'
      · rw [if_neg (by simpa using he)] at hp
        rw [show (i + 1).toNat = i.toNat + 1 by omega]; exact hp
  · rw [List.drop_eq_nil_of_le (by omega)] at hp
    exact hp.symm

/-- The error of a question. -/
def asked (l : List Rw) (q : List Int) : Int := if vcheck q q.length ≠ 0 then vcheck q q.length else rcheck l q.length

theorem vcheck_ok {l : List Int} {d : Int} (h : vcheck l d = 0) : 1 ≤ d ∧ d ≤ 64 ∧ (l.length : Int) = d ∧ vok l := by
  unfold vcheck at h
  split at h
  · rename_i h1
    split at h
    · rename_i h2; exact ⟨h1.1, h1.2.1, h1.2.2, by omega, h2⟩
    · cases h
  · cases h

theorem ok_vcheck {l : List Int} (h : vok l) (h1 : 1 ≤ l.length) : vcheck l l.length = 0 := by
  unfold vcheck
  rw [if_pos ⟨by omega, by have := h.1; omega, rfl⟩, if_pos h.2]

/-- Rows as they must be. -/
structure Rok (l : List Rw) (d : Int) : Prop where
  dim : 1 ≤ d ∧ d ≤ 64
  len : l.length ≤ 512
  id : ∀ r ∈ l, 1 ≤ r.id ∧ r.id ≤ 1000000000
  nodup : (l.map (·.id)).Nodup
  v : ∀ r ∈ l, (r.v.length : Int) = d ∧ vok r.v

theorem rchk_ok {d : Int} : ∀ {l : List Rw} {seen : List Int}, rchk d seen l = 0 ↔ ((∀ r ∈ l, 1 ≤ r.id ∧ r.id ≤ 1000000000 ∧ r.id ∉ seen ∧ vcheck r.v d = 0) ∧ (l.map (·.id)).Nodup) := by
  intro l
  induction l with
  | nil => intro seen; simp [rchk]
  | cons r l ih =>
    intro seen
    simp only [rchk]
    split
    · rename_i h
      refine ⟨fun h => (by cases h), fun ⟨h1, _⟩ => ?_⟩
      have := h1 r (by simp)
      exfalso
      rcases h with h | h | h
      · omega
      · omega
      · exact this.2.2.1 h
    · rename_i h
      split
      · rename_i hv
        exact ⟨fun h => absurd h hv, fun ⟨h1, _⟩ => absurd (h1 r (by simp)).2.2.2 hv⟩
      · rename_i hv
        rw [ih]
        simp only [List.mem_cons, forall_eq_or_imp, List.map_cons, List.nodup_cons, List.mem_append, List.not_mem_nil, or_false, not_or]
        constructor
        · rintro ⟨h1, h2⟩
          refine ⟨⟨⟨by omega, by omega, fun hm => h (.inr (.inr hm)), by simpa using hv⟩, fun x hx => ⟨(h1 x hx).1, (h1 x hx).2.1, (h1 x hx).2.2.1.1, (h1 x hx).2.2.2⟩⟩, ?_, h2⟩
          intro hm
          obtain ⟨x, hx, he⟩ := List.mem_map.1 hm
          exact (h1 x hx).2.2.1.2 he
        · rintro ⟨⟨_, h1⟩, h2, h3⟩
          refine ⟨fun x hx => ⟨(h1 x hx).1, (h1 x hx).2.1, ⟨(h1 x hx).2.2.1, fun he => h2 (List.mem_map.2 ⟨x, hx, he⟩)⟩, (h1 x hx).2.2.2⟩, h3⟩

theorem rcheck_ok {l : List Rw} {d : Int} : rcheck l d = 0 ↔ Rok l d := by
  unfold rcheck
  constructor
  · intro h
    split at h
    · cases h
    · split at h
      · cases h
      · rename_i h1 h2
        obtain ⟨h3, h4⟩ := rchk_ok.1 h
        exact ⟨by omega, by omega, fun r hr => ⟨(h3 r hr).1, (h3 r hr).2.1⟩, h4, fun r hr => ⟨(vcheck_ok (h3 r hr).2.2.2).2.2.1, (vcheck_ok (h3 r hr).2.2.2).2.2.2⟩⟩
  · intro h
    have := h.dim
    have := h.len
    rw [if_neg (by omega), if_neg (by omega)]
    refine rchk_ok.2 ⟨fun r hr => ⟨(h.id r hr).1, (h.id r hr).2, by simp, ?_⟩, h.nodup⟩
    obtain ⟨h1, h2⟩ := h.v r hr
    rw [← h1]
    exact ok_vcheck h2 (by omega)

/-- A question as it must be. -/
structure Qok (l : List Rw) (q : List Int) : Prop where
  vq : vok q
  rows : Rok l q.length

theorem asked_ok {l : List Rw} {q : List Int} : asked l q = 0 ↔ Qok l q := by
  unfold asked
  constructor
  · intro h
    split at h
    · rename_i hne; exact absurd h hne
    · rename_i he
      exact ⟨(vcheck_ok (by simpa using he)).2.2.2, rcheck_ok.1 h⟩
  · intro ⟨h1, h2⟩
    have hv := ok_vcheck h1 (by have := h2.dim; omega)
    rw [if_neg (by simp [hv])]
    exact rcheck_ok.2 h2

/-! ### distances -/

theorem build_two (s t : Sl) : buildOf Tryz.prog 93 2 #[(0, .slice s.a s.n s.c), (1, .slice t.a t.n t.c)] = some (22, [.slice s.a s.n s.c, .slice t.a t.n t.c]) := by kernel_rfl

theorem spec.vec_Dist {s t : Sl} {a b : List Int} {u : H} {K : Int → Int → Int → H → Prop} (hs : Ints u s a) (ht : Ints u t b) (ha : vok a) (h1 : 1 ≤ a.length) (hb : vok b) (hl : a.length = b.length)
    (h : ∀ x y, U64 x → U64 y → wv x y = sqTo a b a.length → K x y 0 u) : C.vec_Dist s t u K := by
  refine ClT.forget (ss := [.agg [.int .u64, .int .u64], .one (.int .i64)]) ?_
  apply vc.vec_Dist
  refine sem_build (build_two _ _) fun g hg => ?_
  generalize hu' : u.ins g _ = u'
  have hle : u.le u' := by subst hu'; exact H.le_ins _ hg
  have c : ∀ j v, (#[Value.slice s.a s.n s.c, Value.slice t.a t.n t.c] : Array Value)[j]? = some v → u'.cell? ⟨g, j, none⟩ = some v := by
    intro j v hv
    subst hu'
    exact (H.cell?_of (H.ins_same _ _ _) j).trans hv
  clear hu' hg
  refine ⟨fun _ i _ _ v => v = u' ∧ 0 ≤ i ∧ i ≤ 2, fun _ i _ _ _ => (2 - i).toNat, ⟨rfl, by omega, by omega⟩, ?_⟩
  rintro _ i _ _ v ⟨rfl, l0, l1⟩
  rw [show (s.n : Int) = (a.length : Int) by rw [hs.len]]
  have va := ok_vcheck ha h1
  have vb : vcheck b a.length = 0 := by rw [hl]; exact ok_vcheck hb (by omega)
  refine ⟨fun hi => ⟨_, rfl, ⟨l0, hi⟩, ?_⟩, fun hi => spec.vec_far (hs.mono hle) (ht.mono hle) ha hb hl fun x y hx hy hw => ⟨hle, h x y hx hy hw⟩⟩
  have hi : i < 2 := hi
  have hc : i = 0 ∨ i = 1 := by omega
  rcases hc with rfl | rfl
  · refine ⟨s, c 0 _ rfl, spec.vec_Check (hs.mono hle) ⟨fun hne => absurd va hne, fun _ => ⟨⟨by omega, by omega⟩, ⟨rfl, by omega, by omega⟩, by dsimp only; omega⟩⟩⟩
  · refine ⟨t, c 1 _ rfl, spec.vec_Check (ht.mono hle) ⟨fun hne => absurd vb hne, fun _ => ⟨⟨by omega, by omega⟩, ⟨rfl, by omega, by omega⟩, by dsimp only; omega⟩⟩⟩

theorem sqTo_ok {a b : List Int} (ha : vok a) (hb : vok b) (hl : a.length = b.length) : Dok (sqTo a b a.length) := by
  have := sqTo_le ha hb a.length (by omega) (by omega)
  have := ha.1
  unfold Dok
  constructor <;> omega

/-- A row's hit. -/
def hitOf (q : List Int) (r : Rw) : Hit := (r.id, sqTo r.v q r.v.length)

end Go.Proofs.YtbohcdjoglidhaaGreatDoor

/- VcHits3 -/
namespace Go.Proofs.YtbohcdjoglidhaaGreatDoor

theorem tHits : elemT Tryz.prog 34 = some (63, 3, 24, [.int .i64 0, .int .u64 0, .int .u64 0]) := by kernel_rfl
theorem build_hit (x y z : Int) : buildOf Tryz.prog 34 1 #[(0, .agg #[.int .i64 x, .int .u64 y, .int .u64 z])] = some (63, [.int .i64 x, .int .u64 y, .int .u64 z]) := by kernel_rfl

theorem OwnF.rebase {u0 u : H} {e k : Nat} {s : Sl} {xs : List Value} (h : OwnF u0 u e k s xs) {n : Nat} (hn : u n = none) (o : Obj) : OwnF (u0.ins n o) (u.ins n o) e k s xs := by
  refine ⟨h.own.le fun b x _ hb => H.le_ins _ hn _ _ hb, fun b x hb => ?_, fun g hg => ?_⟩
  · unfold H.ins at hb ⊢
    split at hb
    · rename_i hbn; rw [if_pos hbn]; exact hb
    · rename_i hbn; rw [if_neg hbn]; exact h.le b x hb
  · rcases h.own.is with h0 | ⟨g', cur, ha, hg', _⟩
    · rw [h0] at hg; simp [Sl.blk] at hg
    · have : g' = g := by simpa [Sl.blk, ha] using hg
      subst this
      rw [H.ins_other _ _ (fun hgn => by rw [hgn, hn] at hg'; cases hg')]
      exact h.fresh g' hg

theorem H.le.none {u u' : H} (h : u.le u') {n : Nat} (hn : u' n = none) : u n = none := by
  cases hx : u n with
  | none => rfl
  | some o => rw [h _ _ hx] at hn; cases hn

theorem st_new {u : H} {n : Nat} {zs vs : List Value} {T : TypeId} {f : H → Prop} (hl : zs.length = vs.length) (h1 : ∀ v ∈ vs, v.oneCell' = true) (hf : f (u.ins n (.cells vs.toArray T (0, 0)))) :
    H.St (u.ins n (.cells zs.toArray T (0, 0))) ⟨n, 0, none⟩ vs f := by
  refine ⟨zs.toArray, T, H.ins_same _ _ _, rfl, by simp [hl], h1, ?_⟩
  rw [H.ins_ins]
  have : wr zs.toArray 0 vs = vs.toArray := by
    have := wr_toList zs.toArray 0 vs (by simp [hl])
    simp only [List.take_zero, List.nil_append, Nat.zero_add] at this
    rw [List.drop_eq_nil_of_le (by simp [hl])] at this
    apply Array.ext'
    rw [this]; simp
  show f (u.ins n (.cells (wr zs.toArray 0 vs) T (0, 0)))
  rw [this]; exact hf

theorem set_mid {α : Type} (A : List α) (z y : α) (B : List α) : (A ++ z :: B).set A.length y = A ++ y :: B := by
  induction A with
  | nil => rfl
  | cons a A ih => simp [ih]

theorem OwnF.hts {u0 u : H} {e : Nat} {s : Sl} {l : List Hit} (h : OwnF u0 u e 3 s (l.flatMap encH)) : Hts u s l := h.own.seg

theorem flat_push (l : List Hit) (h : Hit) : l.flatMap encH ++ [.int .i64 h.1, .int .u64 (hiW h.2), .int .u64 (loW h.2)] = (l ++ [h]).flatMap encH := by simp [encH]

end Go.Proofs.YtbohcdjoglidhaaGreatDoor

/- VcHeapPure -/
namespace Go.Proofs.YtbohcdjoglidhaaGreatDoor

/-- Two elements change places. -/
def swapL {α : Type} (l : List α) (i j : Nat) : List α :=
  match l[i]?, l[j]? with
  | some a, some b => (l.set i b).set j a
  | _, _ => l

theorem swapL_eq {α : Type} {l : List α} {i j : Nat} (hi : i < l.length) (hj : j < l.length) : swapL l i j = (l.set i l[j]).set j l[i] := by
  simp [swapL, hi, hj]

theorem swapL_len {α : Type} (l : List α) (i j : Nat) : (swapL l i j).length = l.length := by
  unfold swapL; split <;> simp

theorem swapL_perm {α : Type} {l : List α} {i j : Nat} (hi : i < l.length) (hj : j < l.length) : (swapL l i j).Perm l := by
  rw [swapL_eq hi hj]
  exact List.set_set_perm hi hj

theorem swapL_get {α : Type} {l : List α} {i j k : Nat} (hi : i < l.length) (hj : j < l.length) (hk : k < l.length) :
    (swapL l i j)[k]? = if k = j then some l[i] else if k = i then some l[j] else some l[k] := by
  rw [swapL_eq hi hj]
  simp only [List.getElem?_set, List.length_set]
  by_cases h1 : j = k
  · subst h1; simp [hj]
  · by_cases h2 : i = k
    · subst h2; simp [h1, hi, Ne.symm h1]
    · simp [h1, h2, Ne.symm h1, Ne.symm h2, hk]

/-- What a comparison must be. -/
structure LtOk {α : Type} (lt : α → α → Bool) : Prop where
  asymm : ∀ a b, lt a b = true → lt b a = false
  trans : ∀ a b c, lt b a = false → lt c b = false → lt c a = false

variable {α : Type} [Inhabited α] {lt : α → α → Bool}

abbrev pa (i : Nat) : Nat := (i - 1) / 2

/-- No child is before its parent. -/
def Hp (lt : α → α → Bool) (n : Nat) (l : List α) : Prop := ∀ i, 0 < i → i < n → lt (l.getD i default) (l.getD (pa i) default) = false

/-- But for one child and its parent. -/
structure UpI (lt : α → α → Bool) (l : List α) (j : Nat) : Prop where
  inn : j < l.length
  others : ∀ i, 0 < i → i < l.length → i ≠ j → lt (l.getD i default) (l.getD (pa i) default) = false
  over : ∀ i, 0 < i → i < l.length → pa i = j → 0 < j → lt (l.getD i default) (l.getD (pa j) default) = false

theorem swapL_getD {l : List α} {i j k : Nat} (hi : i < l.length) (hj : j < l.length) (hk : k < l.length) :
    (swapL l i j).getD k default = if k = j then l.getD i default else if k = i then l.getD j default else l.getD k default := by
  rw [List.getD_eq_getElem?_getD, swapL_get hi hj hk]
  (repeat' split) <;> simp [hi, hj, hk]

theorem UpI.done {l : List α} {j : Nat} (h : UpI lt l j) (hd : j = 0 ∨ lt (l.getD j default) (l.getD (pa j) default) = false) : Hp lt l.length l := by
  intro i h0 hi
  by_cases hij : i = j
  · subst hij
    rcases hd with h | h
    · omega
    · exact h
  · exact h.others i h0 hi hij

theorem UpI.step (hL : LtOk lt) {l : List α} {j : Nat} (h : UpI lt l j) (hj : 0 < j) (hl : lt (l.getD j default) (l.getD (pa j) default) = true) : UpI lt (swapL l (pa j) j) (pa j) := by
  have hjl := h.inn
  have hpl : pa j < j := by unfold pa; omega
  have hlen := swapL_len l (pa j) j
  have g : ∀ k, k < l.length → (swapL l (pa j) j).getD k default = if k = j then l.getD (pa j) default else if k = pa j then l.getD j default else l.getD k default :=
    fun k hk => swapL_getD (by omega) hjl hk
  refine ⟨by omega, ?_, ?_⟩
  · intro i h0 hi hne
    rw [hlen] at hi
    have hpi : pa i < i := by unfold pa; omega
    rw [g i hi, g (pa i) (by omega)]
    by_cases hij : i = j
    · subst hij
      rw [if_pos rfl, if_neg (by omega), if_pos rfl]
      exact hL.asymm _ _ hl
    · rw [if_neg hij, if_neg hne]
      by_cases hpij : pa i = j
      · rw [if_pos hpij]
        exact h.over i h0 hi hpij hj
      · rw [if_neg hpij]
        by_cases hpp : pa i = pa j
        · rw [if_pos hpp]
          have := h.others i h0 hi hij
          rw [hpp] at this
          exact hL.trans _ _ _ (hL.asymm _ _ hl) this
        · rw [if_neg hpp]
          exact h.others i h0 hi hij
  · intro i h0 hi hpi hpj
    rw [hlen] at hi
    have hppj : pa (pa j) < pa j := by unfold pa at *; omega
    have hii : pa i < i := by unfold pa; omega
    rw [g i hi, g (pa (pa j)) (by omega), if_neg (by omega : ¬ pa (pa j) = j), if_neg (by omega : ¬ pa (pa j) = pa j)]
    have hpp := h.others (pa j) hpj (by omega) (by omega)
    by_cases hij : i = j
    · rw [if_pos hij]; exact hpp
    · rw [if_neg hij, if_neg (by omega)]
      have := h.others i h0 hi hij
      rw [hpi] at this
      exact hL.trans _ _ _ hpp this

/-- But for one parent and its children, within the first n. -/
structure DownI (lt : α → α → Bool) (n : Nat) (l : List α) (j : Nat) : Prop where
  le : n ≤ l.length
  others : ∀ i, 0 < i → i < n → pa i ≠ j → lt (l.getD i default) (l.getD (pa i) default) = false
  over : ∀ i, 0 < i → i < n → pa i = j → 0 < j → lt (l.getD i default) (l.getD (pa j) default) = false

theorem DownI.done {n : Nat} {l : List α} {j : Nat} (h : DownI lt n l j) (hd : ∀ i, 0 < i → i < n → pa i = j → lt (l.getD i default) (l.getD j default) = false) : Hp lt n l := by
  intro i h0 hi
  by_cases hij : pa i = j
  · rw [hij]; exact hd i h0 hi hij
  · exact h.others i h0 hi hij

theorem DownI.step (hL : LtOk lt) {n : Nat} {l : List α} {j c : Nat} (h : DownI lt n l j) (hc0 : 0 < c) (hc : c < n) (hcj : pa c = j) (hl : lt (l.getD c default) (l.getD j default) = true)
    (hm : ∀ i, 0 < i → i < n → pa i = j → lt (l.getD i default) (l.getD c default) = false) : DownI lt n (swapL l j c) c := by
  have hn := h.le
  have hjc : j < c := by rw [← hcj]; unfold pa; omega
  have hlen := swapL_len l j c
  have g : ∀ k, k < l.length → (swapL l j c).getD k default = if k = c then l.getD j default else if k = j then l.getD c default else l.getD k default :=
    fun k hk => swapL_getD (by omega) (by omega) hk
  refine ⟨by omega, ?_, ?_⟩
  · intro i h0 hi hne
    have hpi : pa i < i := by unfold pa; omega
    rw [g i (by omega), g (pa i) (by omega), if_neg hne]
    by_cases hic : i = c
    · subst hic
      rw [if_pos rfl, if_pos hcj]
      exact hL.asymm _ _ hl
    · rw [if_neg hic]
      by_cases hij : i = j
      · subst hij
        rw [if_pos rfl, if_neg (by omega)]
        have := h.over c hc0 hc hcj h0
        exact this
      · rw [if_neg hij]
        by_cases hpj : pa i = j
        · rw [if_pos hpj]; exact hm i h0 hi hpj
        · rw [if_neg hpj]; exact h.others i h0 hi hpj
  · intro i h0 hi hpi _
    have hpi' : pa i < i := by unfold pa; omega
    rw [g i (by omega), g (pa c) (by omega), if_neg (by omega : ¬ i = c), if_neg (by omega : ¬ i = j), hcj, if_neg (by omega : ¬ j = c), if_pos rfl]
    have := h.others i h0 hi (by omega)
    rw [hpi] at this
    exact this

theorem Hp.root (hL : LtOk lt) {n : Nat} {l : List α} (h : Hp lt n l) : ∀ i, i < n → lt (l.getD i default) (l.getD 0 default) = false := by
  intro i
  induction i using Nat.strongRecOn with
  | _ i ih =>
    intro hi
    by_cases h0 : i = 0
    · subst h0
      cases e : lt (l.getD 0 default) (l.getD 0 default) with
      | false => rfl
      | true => have := hL.asymm _ _ e; rw [e] at this; cases this
    · have hp : pa i < i := by unfold pa; omega
      exact hL.trans _ _ _ (ih (pa i) hp (by omega)) (h i (by omega) hi)

end Go.Proofs.YtbohcdjoglidhaaGreatDoor

/- VcHeap -/
namespace Go.Proofs.YtbohcdjoglidhaaGreatDoor

/-! ### methods found -/

theorem wrapNil (ts : Array TypeId) (t : TypeId) (p : Addr) (a b : ByteArray) : Builtin.ssaWrapNilChk_ ts t #[.pointer (some p), .string a, .string b] = pure (.pointer (some p)) := rfl

/-- A method that an entry of a pointer's method table names, its receiver a value: the value is loaded. -/
theorem run_method_val {P : Program} {fuel : Nat} {t e : TypeId} {i : TypeInfo} {name : String} {m : Method} {f : FuncId} (hi : P.info? t = some i) (hm : i.methods.find? (·.name == name) = some m) (hp : m.path = #[])
    (hf : m.func = some (f, false)) (hu : P.underlying t = some (.pointer e)) {p : Addr} {v : Value} {w : World} (hl : (loadVar e p).run P w = .ok v w) :
    (method (fuel + 1) t (.pointer (some p)) name).run P w = .ok (f, v) w := by
  unfold method
  simp [Sem.run_bind, typeInfo, hi, Result.andThen, hm, hp, hf, follow, receiverAt, run_underlying hu, Place.get, wrapNil, strVal, asAddr, hl]

theorem run_method_ptr {P : Program} {fuel : Nat} {t e : TypeId} {i : TypeInfo} {name : String} {m : Method} {f : FuncId} (hi : P.info? t = some i) (hm : i.methods.find? (·.name == name) = some m) (hp : m.path = #[])
    (hf : m.func = some (f, true)) (hu : P.underlying t = some (.pointer e)) {p : Option Addr} {w : World} :
    (method (fuel + 1) t (.pointer p) name).run P w = .ok (f, .pointer p) w := by
  unfold method
  simp [Sem.run_bind, typeInfo, hi, Result.andThen, hm, hp, hf, follow, receiverAt, run_underlying hu, Place.get]

theorem swapL_out {α : Type} {l : List α} {i j k : Nat} (hi : i ≠ k) (hj : j ≠ k) : (swapL l i j)[k]? = l[k]? := by
  unfold swapL
  split
  · rw [List.getElem?_set_ne hj, List.getElem?_set_ne hi]
  · rfl

/-- What one asks of a value that is a heap. -/
structure HeapI {α : Type} [Inhabited α] (recv : Value) (St : H → List α → Prop) (lt : α → α → Bool) : Prop where
  len : ∀ {u l} {K : Int → H → Prop}, St u l → K (l.length : Int) u → ClI Tryz.prog recv "Len" #[] [.one (.int .i64)] u K
  less : ∀ {u l} {i j : Int} {K : Bool → H → Prop}, St u l → 0 ≤ i → i < l.length → 0 ≤ j → j < l.length → K (lt (l.getD i.toNat default) (l.getD j.toNat default)) u →
    ClI Tryz.prog recv "Less" #[.int .i64 i, .int .i64 j] [.one .bool] u K
  swap : ∀ {u l} {i j : Int} {K : H → Prop}, St u l → 0 ≤ i → i < l.length → 0 ≤ j → j < l.length → (∀ u', St u' (swapL l i.toNat j.toNat) → K u') →
    ClI Tryz.prog recv "Swap" #[.int .i64 i, .int .i64 j] [] u K
  small : ∀ {u l}, St u l → l.length ≤ 1099511627776

section
variable {α : Type} [Inhabited α] {recv : Value} {St : H → List α → Prop} {lt : α → α → Bool}

theorem spec.heap_up (I : HeapI recv St lt) (L : LtOk lt) {u : H} {l : List α} {j : Int} {K : H → Prop} (hs : St u l) (h0 : 0 ≤ j) (hu : UpI lt l j.toNat)
    (hK : ∀ u' l', St u' l' → l'.Perm l → Hp lt l'.length l' → K u') : C.heap_up recv j u K := by
  have hsm := I.small hs
  apply vc.heap_up
  refine ⟨fun x v => 0 ≤ x ∧ ∃ l', St v l' ∧ l'.Perm l ∧ UpI lt l' x.toNat, fun x _ => x.toNat, ⟨h0, l, hs, .refl _, hu⟩, ?_⟩
  rintro x v ⟨x0, l', hs', hp, hu'⟩
  have hlen := hp.length_eq
  have hin := hu'.inn
  refine ⟨⟨by omega, by omega⟩, by decide, ?_⟩
  by_cases hx : x = 0
  · subst hx
    refine ⟨⟨by decide, by decide⟩, fun _ => hK _ _ hs' hp (hu'.done (.inl rfl)), fun h => absurd (by decide) h⟩
  · have ht : Int.tdiv (x - 1) 2 = (x - 1) / 2 := Int.tdiv_eq_ediv_of_nonneg (by omega)
    have hpa : ((x - 1) / 2).toNat = pa x.toNat := by unfold pa; omega
    rw [ht]
    refine ⟨⟨by omega, by omega⟩, fun h => by omega, fun _ => I.less hs' x0 (by omega) (by omega) (by omega) ?_⟩
    rw [hpa]
    refine ⟨fun hb => hK _ _ hs' hp (hu'.done (.inr (by simpa using hb))), fun hb => I.swap hs' (by omega) (by omega) x0 (by omega) fun u' hs2 => ⟨⟨by omega, _, hs2, ?_, ?_⟩, by dsimp only; omega⟩⟩
    · rw [hpa]
      exact (swapL_perm (by unfold pa; omega) hin).trans hp
    · rw [hpa]
      exact hu'.step L (by omega) hb

theorem spec.heap_down (I : HeapI recv St lt) (L : LtOk lt) {u : H} {l : List α} {j n : Int} {K : Bool → H → Prop} (hs : St u l) (h0 : 0 ≤ j) (hn : n ≤ l.length) (hu : DownI lt n.toNat l j.toNat)
    (hK : ∀ b u' l', St u' l' → l'.Perm l → Hp lt n.toNat l' → (∀ k : Nat, n ≤ k → l'[k]? = l[k]?) → K b u') (hj : j < n ∨ j ≤ 0) : C.heap_down recv j n u K := by
  have hsm := I.small hs
  apply vc.heap_down
  intro K0 hK0
  refine ⟨fun x v => 0 ≤ x ∧ (x < n ∨ x ≤ 0) ∧ ∃ l', St v l' ∧ l'.Perm l ∧ DownI lt n.toNat l' x.toNat ∧ ∀ k : Nat, n ≤ k → l'[k]? = l[k]?, fun x _ => (n - x).toNat, ⟨h0, hj, l, hs, .refl _, hu, fun _ _ => rfl⟩, ?_⟩
  rintro x v ⟨x0, hxn, l', hs', hp, hd, hout⟩
  have hlen := hp.length_eq
  have done : ∀ {v'}, St v' l' → (∀ i, 0 < i → i < n.toNat → pa i = x.toNat → lt (l'.getD i default) (l'.getD x.toNat default) = false) → K0 x v' := fun hs2 h =>
    hK0 _ _ (hK _ _ _ hs2 hp (hd.done h) hout)
  refine ⟨⟨by omega, by omega⟩, ⟨by omega, by omega⟩, fun K7 hK7 => ⟨fun h => done hs' fun i i0 i1 i2 => by unfold pa at i2; omega, fun h => ⟨fun h2 => by omega, fun _ => hK7 _ ?_⟩⟩⟩
  clear hK7 K7
  intro K9 hK9
  have turn : ∀ c : Int, 0 < c → c < n → pa c.toNat = x.toNat → (∀ i, 0 < i → i < n.toNat → pa i = x.toNat → lt (l'.getD i default) (l'.getD c.toNat default) = false) → K9 c v := by
    intro c c0 c1 c2 hm
    have hcx : x < c := by unfold pa at c2; omega
    refine hK9 _ _ (I.less hs' (by omega) (by omega) x0 (by omega) ⟨fun hb => done hs' fun i i0 i1 i2 => ?_, fun hb => I.swap hs' x0 (by omega) (by omega) (by omega) fun u' hs2 => ⟨⟨by omega, .inl c1, _, hs2, ?_, ?_, ?_⟩, by dsimp only; omega⟩⟩)
    · exact L.trans _ _ _ (by simpa using hb) (hm i i0 i1 i2)
    · exact (swapL_perm (by omega) (by omega)).trans hp
    · exact hd.step L (by omega) (by omega) c2 hb hm
    · intro k hk
      rw [swapL_out (by omega) (by omega)]
      exact hout k hk
  clear hK9
  have irr : ∀ a, lt a a = false := fun a => by
    cases e : lt a a with
    | false => rfl
    | true => have := L.asymm _ _ e; rw [e] at this; cases this
  have p1 : pa (2 * x + 1).toNat = x.toNat := by unfold pa; omega
  have p2 : pa (2 * x + 1 + 1).toNat = x.toNat := by unfold pa; omega
  have two : ∀ i, 0 < i → i < n.toNat → pa i = x.toNat → i = (2 * x + 1).toNat ∨ i = (2 * x + 1 + 1).toNat := fun i i0 _ i2 => by unfold pa at i2; omega
  refine ⟨⟨by omega, by omega⟩, fun h2 => I.less hs' (by omega) (by omega) (by omega) (by omega) ⟨fun hb => turn _ (by omega) h2 p2 fun i i0 i1 i2 => ?_, fun hb => turn _ (by omega) (by omega) p1 fun i i0 i1 i2 => ?_⟩,
    fun h2 => turn _ (by omega) (by omega) p1 fun i i0 i1 i2 => ?_⟩
  · rcases two i i0 i1 i2 with rfl | rfl
    · exact L.asymm _ _ hb
    · exact irr _
  · rcases two i i0 i1 i2 with rfl | rfl
    · exact irr _
    · exact hb
  · rcases two i i0 i1 i2 with rfl | rfl
    · exact irr _
    · omega

theorem Hp.downI {l : List α} {n : Nat} (h : Hp lt n l) (hn : n ≤ l.length) (y : α) : DownI lt n (l.set 0 y) 0 := by
  refine ⟨by simpa using hn, fun i i0 i1 i2 => ?_, fun i i0 i1 i2 h0 => by omega⟩
  have hp : pa i ≠ 0 := i2
  have g : ∀ k, k ≠ 0 → (l.set 0 y).getD k default = l.getD k default := fun k hk => by
    rw [List.getD_eq_getElem?_getD, List.getElem?_set_ne (Ne.symm hk), ← List.getD_eq_getElem?_getD]
  rw [g i (by omega), g _ hp]
  exact h i i0 i1

/-- Where the root may be wrong alone. -/
theorem spec.heap_Fix (I : HeapI recv St lt) (L : LtOk lt) {u : H} {l : List α} {K : H → Prop} (hs : St u l) (hne : 0 < l.length) (hd : DownI lt l.length l 0)
    (hK : ∀ u' l', St u' l' → l'.Perm l → Hp lt l'.length l' → K u') : C.heap_Fix recv 0 u K := by
  apply vc.heap_Fix
  refine I.len hs (spec.heap_down I L hs (by omega) (by omega) (by simpa using hd) (fun b u' l' hs' hp hh _ => ?_) (.inl (by omega)))
  have hlen := hp.length_eq
  have hh' : Hp lt l'.length l' := by rw [hlen]; simpa using hh
  refine ⟨fun _ => spec.heap_up I L hs' (by omega) ⟨by show 0 < l'.length; omega, fun i i0 i1 _ => hh' i i0 i1, fun i i0 i1 _ h => absurd h (by decide)⟩ fun u2 l2 hs2 hp2 hh2 => hK _ _ hs2 (hp2.trans hp) hh2, fun _ => hK _ _ hs' hp hh'⟩

theorem spec.heap_Push (I : HeapI recv St lt) (L : LtOk lt) {u : H} {l : List α} {x : Value} {y : α} {K : H → Prop} (hh : Hp lt l.length l)
    (hpush : ∀ {K : H → Prop}, (∀ u', St u' (l ++ [y]) → K u') → ClI Tryz.prog recv "Push" #[x] [] u K)
    (hK : ∀ u' l', St u' l' → l'.Perm (l ++ [y]) → Hp lt l'.length l' → K u') : C.heap_Push recv x u K := by
  apply vc.heap_Push
  refine hpush fun u' hs => I.len hs ?_
  have hsm := I.small hs
  simp only [List.length_append, List.length_singleton] at hsm ⊢
  refine ⟨⟨by omega, by omega⟩, spec.heap_up I L hs (by omega) ⟨by simp, fun i i0 i1 i2 => ?_, fun i i0 i1 i2 => ?_⟩ hK⟩
  · simp only [List.length_append, List.length_singleton] at i1
    have hi : i < l.length := by omega
    have g : ∀ k, k < l.length → (l ++ [y]).getD k default = l.getD k default := fun k hk => by
      rw [List.getD_eq_getElem?_getD, List.getElem?_append_left hk, ← List.getD_eq_getElem?_getD]
    rw [g i hi, g _ (by unfold pa; omega)]
    exact hh i i0 hi
  · simp only [List.length_append, List.length_singleton] at i1
    unfold pa at i2
    omega

end

end Go.Proofs.YtbohcdjoglidhaaGreatDoor

/- VcShelf -/
namespace Go.Proofs
open Go.Shelf
def Tryz.sortHits_ren : Go.Shelf.Ren := ⟨fun | 6 => 85 | 15 => 68 | 14 => 106 | 28 => 98 | 29 => 99 | 20 => 119 | 21 => 120 | 22 => 121 | 23 => 122 | 24 => 123 | 25 => 124 | 26 => 125 | 27 => 126 | 46 => 149 | 47 => 111 | 48 => 112 | 49 => 150 | 50 => 151 | 57 => 158 | n => n, fun | 22 => 34 | 24 => 63 | 25 => 189 | 3 => 3 | 39 => 164 | 0 => 0 | 53 => 201 | 55 => 57 | 4 => 4 | 46 => 194 | 45 => 193 | 50 => 198 | 5 => 5 | 9 => 9 | 66 => 215 | 70 => 218 | 76 => 233 | 77 => 234 | n => n, fun | n => n⟩
theorem Tryz.sortHits : Go.Proofs.SlLaysF0.n6 Tryz.prog Tryz.sortHits_ren := {
  mixed := by kernel_rfl
  f6 := ⟨Tryz.f85.name, by decide, Tryz.func85.trans (congrArg some (by kernel_rfl))⟩
  f14 := ⟨Tryz.f106.name, by decide, Tryz.func106.trans (congrArg some (by kernel_rfl))⟩
  f15 := Tryz.func68.trans (congrArg some (by kernel_rfl))
  f20 := ⟨Tryz.f119.name, by decide, Tryz.func119.trans (congrArg some (by kernel_rfl))⟩
  f21 := ⟨Tryz.f120.name, by decide, Tryz.func120.trans (congrArg some (by kernel_rfl))⟩
  f22 := ⟨Tryz.f121.name, by decide, Tryz.func121.trans (congrArg some (by kernel_rfl))⟩
  f23 := ⟨Tryz.f122.name, by decide, Tryz.func122.trans (congrArg some (by kernel_rfl))⟩
  f24 := ⟨Tryz.f123.name, by decide, Tryz.func123.trans (congrArg some (by kernel_rfl))⟩
  f25 := ⟨Tryz.f124.name, by decide, Tryz.func124.trans (congrArg some (by kernel_rfl))⟩
  f26 := ⟨Tryz.f125.name, by decide, Tryz.func125.trans (congrArg some (by kernel_rfl))⟩
  f27 := ⟨Tryz.f126.name, by decide, Tryz.func126.trans (congrArg some (by kernel_rfl))⟩
  f28 := Tryz.func98.trans (congrArg some (by kernel_rfl))
  f29 := Tryz.func99.trans (congrArg some (by kernel_rfl))
  f46 := ⟨Tryz.f149.name, by decide, Tryz.func149.trans (congrArg some (by kernel_rfl))⟩
  f47 := Tryz.func111.trans (congrArg some (by kernel_rfl))
  f48 := Tryz.func112.trans (congrArg some (by kernel_rfl))
  f49 := ⟨Tryz.f150.name, by decide, Tryz.func150.trans (congrArg some (by kernel_rfl))⟩
  f50 := ⟨Tryz.f151.name, by decide, Tryz.func151.trans (congrArg some (by kernel_rfl))⟩
  f57 := ⟨Tryz.f158.name, by decide, Tryz.func158.trans (congrArg some (by kernel_rfl))⟩
  t0 := Tryz.underlying0
  a0 := Tryz.isAgg0
  z0 := Tryz.sizeOf0
  v0 := Tryz.zeroValue0
  t3 := Tryz.underlying3
  a3 := Tryz.isAgg3
  z3 := Tryz.sizeOf3
  v3 := Tryz.zeroValue3
  t4 := Tryz.underlying4
  a4 := Tryz.isAgg4
  z4 := Tryz.sizeOf4
  v4 := Tryz.zeroValue4
  t5 := Tryz.underlying5
  a5 := Tryz.isAgg5
  z5 := Tryz.sizeOf5
  v5 := Tryz.zeroValue5
  t9 := Tryz.underlying9
  a9 := Tryz.isAgg9
  z9 := Tryz.sizeOf9
  v9 := Tryz.zeroValue9
  t22 := Tryz.underlying34
  a22 := Tryz.isAgg34
  z22 := Tryz.sizeOf34
  v22 := Tryz.zeroValue34
  t25 := Tryz.underlying189
  a25 := Tryz.isAgg189
  z25 := Tryz.sizeOf189
  v25 := Tryz.zeroValue189
  t39 := Tryz.underlying164
  a39 := Tryz.isAgg164
  z39 := Tryz.sizeOf164
  v39 := Tryz.zeroValue164
  t45 := Tryz.underlying193
  a45 := Tryz.isAgg193
  z45 := Tryz.sizeOf193
  v45 := Tryz.zeroValue193
  t46 := Tryz.underlying194
  a46 := Tryz.isAgg194
  z46 := Tryz.sizeOf194
  v46 := Tryz.zeroValue194
  t50 := Tryz.underlying198
  a50 := Tryz.isAgg198
  z50 := Tryz.sizeOf198
  v50 := Tryz.zeroValue198
  t53 := Tryz.underlying201
  a53 := Tryz.isAgg201
  z53 := Tryz.sizeOf201
  v53 := Tryz.zeroValue201
  t55 := Tryz.underlying57
  a55 := Tryz.isAgg57
  z55 := Tryz.sizeOf57
  v55 := Tryz.zeroValue57
  t66 := Tryz.underlying215
  a66 := Tryz.isAgg215
  z66 := Tryz.sizeOf215
  v66 := Tryz.zeroValue215
  t70 := Tryz.underlying218
  a70 := Tryz.isAgg218
  z70 := Tryz.sizeOf218
  v70 := Tryz.zeroValue218
  t76 := Tryz.underlying233
  a76 := Tryz.isAgg233
  z76 := Tryz.sizeOf233
  v76 := Tryz.zeroValue233
  t77 := Tryz.underlying234
  a77 := Tryz.isAgg234
  z77 := Tryz.sizeOf234
  v77 := Tryz.zeroValue234 }
def Tryz.sortInts_ren : Go.Shelf.Ren := ⟨fun | 53 => 100 | 64 => 68 | 63 => 115 | 78 => 98 | 79 => 99 | 70 => 137 | 71 => 138 | 72 => 139 | 73 => 140 | 74 => 141 | 75 => 142 | 59 => 143 | 76 => 144 | 77 => 145 | 88 => 155 | 89 => 111 | 90 => 112 | 91 => 156 | 92 => 157 | 68 => 127 | 96 => 160 | n => n, fun | 22 => 22 | 23 => 3 | 3 => 3 | 51 => 164 | 0 => 0 | 67 => 201 | 69 => 57 | 4 => 4 | 61 => 194 | 60 => 193 | 44 => 198 | 5 => 5 | 9 => 9 | 75 => 215 | 79 => 218 | 83 => 233 | 84 => 234 | n => n, fun | n => n⟩
theorem Tryz.sortInts : Go.Proofs.SlLaysN.n53 Tryz.prog Tryz.sortInts_ren := {
  mixed := by kernel_rfl
  f53 := ⟨Tryz.f100.name, by decide, Tryz.func100.trans (congrArg some (by kernel_rfl))⟩
  f59 := ⟨Tryz.f143.name, by decide, Tryz.func143.trans (congrArg some (by kernel_rfl))⟩
  f63 := ⟨Tryz.f115.name, by decide, Tryz.func115.trans (congrArg some (by kernel_rfl))⟩
  f64 := Tryz.func68.trans (congrArg some (by kernel_rfl))
  f68 := ⟨Tryz.f127.name, by decide, Tryz.func127.trans (congrArg some (by kernel_rfl))⟩
  f70 := ⟨Tryz.f137.name, by decide, Tryz.func137.trans (congrArg some (by kernel_rfl))⟩
  f71 := ⟨Tryz.f138.name, by decide, Tryz.func138.trans (congrArg some (by kernel_rfl))⟩
  f72 := ⟨Tryz.f139.name, by decide, Tryz.func139.trans (congrArg some (by kernel_rfl))⟩
  f73 := ⟨Tryz.f140.name, by decide, Tryz.func140.trans (congrArg some (by kernel_rfl))⟩
  f74 := ⟨Tryz.f141.name, by decide, Tryz.func141.trans (congrArg some (by kernel_rfl))⟩
  f75 := ⟨Tryz.f142.name, by decide, Tryz.func142.trans (congrArg some (by kernel_rfl))⟩
  f76 := ⟨Tryz.f144.name, by decide, Tryz.func144.trans (congrArg some (by kernel_rfl))⟩
  f77 := ⟨Tryz.f145.name, by decide, Tryz.func145.trans (congrArg some (by kernel_rfl))⟩
  f78 := Tryz.func98.trans (congrArg some (by kernel_rfl))
  f79 := Tryz.func99.trans (congrArg some (by kernel_rfl))
  f88 := ⟨Tryz.f155.name, by decide, Tryz.func155.trans (congrArg some (by kernel_rfl))⟩
  f89 := Tryz.func111.trans (congrArg some (by kernel_rfl))
  f90 := Tryz.func112.trans (congrArg some (by kernel_rfl))
  f91 := ⟨Tryz.f156.name, by decide, Tryz.func156.trans (congrArg some (by kernel_rfl))⟩
  f92 := ⟨Tryz.f157.name, by decide, Tryz.func157.trans (congrArg some (by kernel_rfl))⟩
  f96 := ⟨Tryz.f160.name, by decide, Tryz.func160.trans (congrArg some (by kernel_rfl))⟩
  t0 := Tryz.underlying0
  a0 := Tryz.isAgg0
  z0 := Tryz.sizeOf0
  v0 := Tryz.zeroValue0
  t3 := Tryz.underlying3
  a3 := Tryz.isAgg3
  z3 := Tryz.sizeOf3
  v3 := Tryz.zeroValue3
  t4 := Tryz.underlying4
  a4 := Tryz.isAgg4
  z4 := Tryz.sizeOf4
  v4 := Tryz.zeroValue4
  t5 := Tryz.underlying5
  a5 := Tryz.isAgg5
  z5 := Tryz.sizeOf5
  v5 := Tryz.zeroValue5
  t9 := Tryz.underlying9
  a9 := Tryz.isAgg9
  z9 := Tryz.sizeOf9
  v9 := Tryz.zeroValue9
  t22 := Tryz.underlying22
  a22 := Tryz.isAgg22
  z22 := Tryz.sizeOf22
  v22 := Tryz.zeroValue22
  t23 := Tryz.underlying3
  a23 := Tryz.isAgg3
  z23 := Tryz.sizeOf3
  v23 := Tryz.zeroValue3
  t44 := Tryz.underlying198
  a44 := Tryz.isAgg198
  z44 := Tryz.sizeOf198
  v44 := Tryz.zeroValue198
  t51 := Tryz.underlying164
  a51 := Tryz.isAgg164
  z51 := Tryz.sizeOf164
  v51 := Tryz.zeroValue164
  t60 := Tryz.underlying193
  a60 := Tryz.isAgg193
  z60 := Tryz.sizeOf193
  v60 := Tryz.zeroValue193
  t61 := Tryz.underlying194
  a61 := Tryz.isAgg194
  z61 := Tryz.sizeOf194
  v61 := Tryz.zeroValue194
  t67 := Tryz.underlying201
  a67 := Tryz.isAgg201
  z67 := Tryz.sizeOf201
  v67 := Tryz.zeroValue201
  t69 := Tryz.underlying57
  a69 := Tryz.isAgg57
  z69 := Tryz.sizeOf57
  v69 := Tryz.zeroValue57
  t75 := Tryz.underlying215
  a75 := Tryz.isAgg215
  z75 := Tryz.sizeOf215
  v75 := Tryz.zeroValue215
  t79 := Tryz.underlying218
  a79 := Tryz.isAgg218
  z79 := Tryz.sizeOf218
  v79 := Tryz.zeroValue218
  t83 := Tryz.underlying233
  a83 := Tryz.isAgg233
  z83 := Tryz.sizeOf233
  v83 := Tryz.zeroValue233
  t84 := Tryz.underlying234
  a84 := Tryz.isAgg234
  z84 := Tryz.sizeOf234
  v84 := Tryz.zeroValue234 }
def Tryz.sortRows_ren : Go.Shelf.Ren := ⟨fun | 6 => 36 | 15 => 68 | 14 => 67 | 28 => 98 | 29 => 99 | 20 => 90 | 21 => 91 | 22 => 92 | 23 => 93 | 24 => 94 | 25 => 95 | 26 => 96 | 27 => 97 | 46 => 110 | 47 => 111 | 48 => 112 | 49 => 113 | 50 => 114 | 57 => 136 | n => n, fun | 22 => 43 | 24 => 24 | 25 => 121 | 3 => 3 | 39 => 164 | 0 => 0 | 53 => 201 | 55 => 57 | 4 => 4 | 46 => 194 | 45 => 193 | 50 => 198 | 5 => 5 | 9 => 9 | 66 => 215 | 70 => 218 | 76 => 233 | 77 => 234 | n => n, fun | n => n⟩
theorem Tryz.sortRows : Go.Proofs.SlLaysF0.n6 Tryz.prog Tryz.sortRows_ren := {
  mixed := by kernel_rfl
  f6 := ⟨Tryz.f36.name, by decide, Tryz.func36.trans (congrArg some (by kernel_rfl))⟩
  f14 := ⟨Tryz.f67.name, by decide, Tryz.func67.trans (congrArg some (by kernel_rfl))⟩
  f15 := Tryz.func68.trans (congrArg some (by kernel_rfl))
  f20 := ⟨Tryz.f90.name, by decide, Tryz.func90.trans (congrArg some (by kernel_rfl))⟩
  f21 := ⟨Tryz.f91.name, by decide, Tryz.func91.trans (congrArg some (by kernel_rfl))⟩
  f22 := ⟨Tryz.f92.name, by decide, Tryz.func92.trans (congrArg some (by kernel_rfl))⟩
  f23 := ⟨Tryz.f93.name, by decide, Tryz.func93.trans (congrArg some (by kernel_rfl))⟩
  f24 := ⟨Tryz.f94.name, by decide, Tryz.func94.trans (congrArg some (by kernel_rfl))⟩
  f25 := ⟨Tryz.f95.name, by decide, Tryz.func95.trans (congrArg some (by kernel_rfl))⟩
  f26 := ⟨Tryz.f96.name, by decide, Tryz.func96.trans (congrArg some (by kernel_rfl))⟩
  f27 := ⟨Tryz.f97.name, by decide, Tryz.func97.trans (congrArg some (by kernel_rfl))⟩
  f28 := Tryz.func98.trans (congrArg some (by kernel_rfl))
  f29 := Tryz.func99.trans (congrArg some (by kernel_rfl))
  f46 := ⟨Tryz.f110.name, by decide, Tryz.func110.trans (congrArg some (by kernel_rfl))⟩
  f47 := Tryz.func111.trans (congrArg some (by kernel_rfl))
  f48 := Tryz.func112.trans (congrArg some (by kernel_rfl))
  f49 := ⟨Tryz.f113.name, by decide, Tryz.func113.trans (congrArg some (by kernel_rfl))⟩
  f50 := ⟨Tryz.f114.name, by decide, Tryz.func114.trans (congrArg some (by kernel_rfl))⟩
  f57 := ⟨Tryz.f136.name, by decide, Tryz.func136.trans (congrArg some (by kernel_rfl))⟩
  t0 := Tryz.underlying0
  a0 := Tryz.isAgg0
  z0 := Tryz.sizeOf0
  v0 := Tryz.zeroValue0
  t3 := Tryz.underlying3
  a3 := Tryz.isAgg3
  z3 := Tryz.sizeOf3
  v3 := Tryz.zeroValue3
  t4 := Tryz.underlying4
  a4 := Tryz.isAgg4
  z4 := Tryz.sizeOf4
  v4 := Tryz.zeroValue4
  t5 := Tryz.underlying5
  a5 := Tryz.isAgg5
  z5 := Tryz.sizeOf5
  v5 := Tryz.zeroValue5
  t9 := Tryz.underlying9
  a9 := Tryz.isAgg9
  z9 := Tryz.sizeOf9
  v9 := Tryz.zeroValue9
  t22 := Tryz.underlying43
  a22 := Tryz.isAgg43
  z22 := Tryz.sizeOf43
  v22 := Tryz.zeroValue43
  t25 := Tryz.underlying121
  a25 := Tryz.isAgg121
  z25 := Tryz.sizeOf121
  v25 := Tryz.zeroValue121
  t39 := Tryz.underlying164
  a39 := Tryz.isAgg164
  z39 := Tryz.sizeOf164
  v39 := Tryz.zeroValue164
  t45 := Tryz.underlying193
  a45 := Tryz.isAgg193
  z45 := Tryz.sizeOf193
  v45 := Tryz.zeroValue193
  t46 := Tryz.underlying194
  a46 := Tryz.isAgg194
  z46 := Tryz.sizeOf194
  v46 := Tryz.zeroValue194
  t50 := Tryz.underlying198
  a50 := Tryz.isAgg198
  z50 := Tryz.sizeOf198
  v50 := Tryz.zeroValue198
  t53 := Tryz.underlying201
  a53 := Tryz.isAgg201
  z53 := Tryz.sizeOf201
  v53 := Tryz.zeroValue201
  t55 := Tryz.underlying57
  a55 := Tryz.isAgg57
  z55 := Tryz.sizeOf57
  v55 := Tryz.zeroValue57
  t66 := Tryz.underlying215
  a66 := Tryz.isAgg215
  z66 := Tryz.sizeOf215
  v66 := Tryz.zeroValue215
  t70 := Tryz.underlying218
  a70 := Tryz.isAgg218
  z70 := Tryz.sizeOf218
  v70 := Tryz.zeroValue218
  t76 := Tryz.underlying233
  a76 := Tryz.isAgg233
  z76 := Tryz.sizeOf233
  v76 := Tryz.zeroValue233
  t77 := Tryz.underlying234
  a77 := Tryz.isAgg234
  z77 := Tryz.sizeOf234
  v77 := Tryz.zeroValue234 }
def Tryz.sortNums_ren : Go.Shelf.Ren := ⟨fun | 6 => 88 | 15 => 68 | 14 => 109 | 28 => 98 | 29 => 99 | 20 => 128 | 21 => 129 | 22 => 130 | 23 => 131 | 24 => 132 | 25 => 133 | 26 => 134 | 27 => 135 | 46 => 152 | 47 => 111 | 48 => 112 | 49 => 153 | 50 => 154 | 57 => 159 | n => n, fun | 22 => 22 | 24 => 3 | 25 => 147 | 3 => 3 | 39 => 164 | 0 => 0 | 53 => 201 | 55 => 57 | 4 => 4 | 46 => 194 | 45 => 193 | 50 => 198 | 5 => 5 | 9 => 9 | 66 => 215 | 70 => 218 | 76 => 233 | 77 => 234 | n => n, fun | n => n⟩
theorem Tryz.sortNums : Go.Proofs.SlLaysF.n6 Tryz.prog Tryz.sortNums_ren := {
  mixed := by kernel_rfl
  f6 := ⟨Tryz.f88.name, by decide, Tryz.func88.trans (congrArg some (by kernel_rfl))⟩
  f14 := ⟨Tryz.f109.name, by decide, Tryz.func109.trans (congrArg some (by kernel_rfl))⟩
  f15 := Tryz.func68.trans (congrArg some (by kernel_rfl))
  f20 := ⟨Tryz.f128.name, by decide, Tryz.func128.trans (congrArg some (by kernel_rfl))⟩
  f21 := ⟨Tryz.f129.name, by decide, Tryz.func129.trans (congrArg some (by kernel_rfl))⟩
  f22 := ⟨Tryz.f130.name, by decide, Tryz.func130.trans (congrArg some (by kernel_rfl))⟩
  f23 := ⟨Tryz.f131.name, by decide, Tryz.func131.trans (congrArg some (by kernel_rfl))⟩
  f24 := ⟨Tryz.f132.name, by decide, Tryz.func132.trans (congrArg some (by kernel_rfl))⟩
  f25 := ⟨Tryz.f133.name, by decide, Tryz.func133.trans (congrArg some (by kernel_rfl))⟩
  f26 := ⟨Tryz.f134.name, by decide, Tryz.func134.trans (congrArg some (by kernel_rfl))⟩
  f27 := ⟨Tryz.f135.name, by decide, Tryz.func135.trans (congrArg some (by kernel_rfl))⟩
  f28 := Tryz.func98.trans (congrArg some (by kernel_rfl))
  f29 := Tryz.func99.trans (congrArg some (by kernel_rfl))
  f46 := ⟨Tryz.f152.name, by decide, Tryz.func152.trans (congrArg some (by kernel_rfl))⟩
  f47 := Tryz.func111.trans (congrArg some (by kernel_rfl))
  f48 := Tryz.func112.trans (congrArg some (by kernel_rfl))
  f49 := ⟨Tryz.f153.name, by decide, Tryz.func153.trans (congrArg some (by kernel_rfl))⟩
  f50 := ⟨Tryz.f154.name, by decide, Tryz.func154.trans (congrArg some (by kernel_rfl))⟩
  f57 := ⟨Tryz.f159.name, by decide, Tryz.func159.trans (congrArg some (by kernel_rfl))⟩
  t0 := Tryz.underlying0
  a0 := Tryz.isAgg0
  z0 := Tryz.sizeOf0
  v0 := Tryz.zeroValue0
  t3 := Tryz.underlying3
  a3 := Tryz.isAgg3
  z3 := Tryz.sizeOf3
  v3 := Tryz.zeroValue3
  t4 := Tryz.underlying4
  a4 := Tryz.isAgg4
  z4 := Tryz.sizeOf4
  v4 := Tryz.zeroValue4
  t5 := Tryz.underlying5
  a5 := Tryz.isAgg5
  z5 := Tryz.sizeOf5
  v5 := Tryz.zeroValue5
  t9 := Tryz.underlying9
  a9 := Tryz.isAgg9
  z9 := Tryz.sizeOf9
  v9 := Tryz.zeroValue9
  t22 := Tryz.underlying22
  a22 := Tryz.isAgg22
  z22 := Tryz.sizeOf22
  v22 := Tryz.zeroValue22
  a24 := Tryz.isAgg3
  z24 := Tryz.sizeOf3
  t25 := Tryz.underlying147
  a25 := Tryz.isAgg147
  z25 := Tryz.sizeOf147
  v25 := Tryz.zeroValue147
  t39 := Tryz.underlying164
  a39 := Tryz.isAgg164
  z39 := Tryz.sizeOf164
  v39 := Tryz.zeroValue164
  t45 := Tryz.underlying193
  a45 := Tryz.isAgg193
  z45 := Tryz.sizeOf193
  v45 := Tryz.zeroValue193
  t46 := Tryz.underlying194
  a46 := Tryz.isAgg194
  z46 := Tryz.sizeOf194
  v46 := Tryz.zeroValue194
  t50 := Tryz.underlying198
  a50 := Tryz.isAgg198
  z50 := Tryz.sizeOf198
  v50 := Tryz.zeroValue198
  t53 := Tryz.underlying201
  a53 := Tryz.isAgg201
  z53 := Tryz.sizeOf201
  v53 := Tryz.zeroValue201
  t55 := Tryz.underlying57
  a55 := Tryz.isAgg57
  z55 := Tryz.sizeOf57
  v55 := Tryz.zeroValue57
  t66 := Tryz.underlying215
  a66 := Tryz.isAgg215
  z66 := Tryz.sizeOf215
  v66 := Tryz.zeroValue215
  t70 := Tryz.underlying218
  a70 := Tryz.isAgg218
  z70 := Tryz.sizeOf218
  v70 := Tryz.zeroValue218
  t76 := Tryz.underlying233
  a76 := Tryz.isAgg233
  z76 := Tryz.sizeOf233
  v76 := Tryz.zeroValue233
  t77 := Tryz.underlying234
  a77 := Tryz.isAgg234
  z77 := Tryz.sizeOf234
  v77 := Tryz.zeroValue234 }
def Tryz.tz64_ren : Go.Shelf.Ren := ⟨fun | 29 => 76 | n => n, fun | 22 => 57 | 3 => 3 | 4 => 4 | 25 => 164 | 54 => 205 | 0 => 0 | 5 => 5 | n => n, fun | 1 => 0 | n => n⟩
theorem Tryz.tz64 : Go.Proofs.Lays7.n29 Tryz.prog Tryz.tz64_ren := {
  mixed := by kernel_rfl
  f29 := Tryz.func76.trans (congrArg some (by kernel_rfl))
  t0 := Tryz.underlying0
  a0 := Tryz.isAgg0
  z0 := Tryz.sizeOf0
  v0 := Tryz.zeroValue0
  i0 := by kernel_rfl
  t3 := Tryz.underlying3
  a3 := Tryz.isAgg3
  z3 := Tryz.sizeOf3
  v3 := Tryz.zeroValue3
  i3 := by kernel_rfl
  t4 := Tryz.underlying4
  a4 := Tryz.isAgg4
  z4 := Tryz.sizeOf4
  v4 := Tryz.zeroValue4
  i4 := by kernel_rfl
  t5 := Tryz.underlying5
  a5 := Tryz.isAgg5
  z5 := Tryz.sizeOf5
  v5 := Tryz.zeroValue5
  i5 := by kernel_rfl
  t22 := Tryz.underlying57
  a22 := Tryz.isAgg57
  z22 := Tryz.sizeOf57
  v22 := Tryz.zeroValue57
  i22 := by kernel_rfl
  t25 := Tryz.underlying164
  a25 := Tryz.isAgg164
  z25 := Tryz.sizeOf164
  v25 := Tryz.zeroValue164
  i25 := by kernel_rfl
  t54 := Tryz.underlying205
  a54 := Tryz.isAgg205
  z54 := Tryz.sizeOf205
  g1 := by kernel_rfl }
end Go.Proofs

/- VcSort -/
namespace Go.Proofs.YtbohcdjoglidhaaGreatDoor
open Go.Shelf Go.RowKit Go.Sort

theorem Step.grow_eq {W w' : World} (h : Step (fun b => W.heap[b]?) [] W (fun b => W.heap[b]?) [] w') : ∃ q os', w' = grow (W.drewN q) os' := by
  refine ⟨w'.drawn - W.drawn, w'.heap.extract W.heap.size w'.heap.size, ?_⟩
  have hd := h.drawn
  have hs := h.size
  have hh : w'.heap = W.heap ++ w'.heap.extract W.heap.size w'.heap.size := by
    apply Array.ext
    · simp; omega
    · intro i h1 h2
      rcases Nat.lt_or_ge i W.heap.size with hi | hi
      · rw [Array.getElem_append_left hi]
        have := h.sub i W.heap[i] (by simp [hi])
        rw [Array.getElem?_eq_getElem h1] at this
        exact Option.some.inj this
      · rw [Array.getElem_append_right hi]
        simp only [Array.getElem_extract]
        congr 1
        omega
  have e1 := h.os
  have e2 := h.tape
  have e3 := h.output
  cases w'; cases W
  simp only [grow, World.drewN] at *
  simp only [World.mk.injEq]
  refine ⟨hh, e2, by omega, e1, e3⟩

/-- A call that leaves all as it was, in the shelf's words. -/
theorem grown_of_pure {P : Program} {f : FuncId} {args : Array Value} {z : Int} (h : ∀ u : H, ClT P f args [.one (.int .i64)] u fun z' u' => z' = z ∧ u' = u) (W : World) :
    Calls P f args W fun e w' => e = .returned (.int .i64 z) ∧ ∃ q os', w' = grow (W.drewN q) os' := by
  refine (h (fun b => W.heap[b]?) W (fun b o e => e)).mono ?_
  rintro e w' ⟨v, u', rfl, ⟨vs, hk, rfl, hc⟩, hs⟩
  cases hk with
  | cons x hr =>
    cases hr
    have hc2 := (CT.un_enc (.int .i64) x _).1 hc
    obtain ⟨hx, hu⟩ : x = z ∧ u' = _ := hc2
    subst hx; subst hu
    exact ⟨rfl, hs.grow_eq⟩

def cmpH (a b : Hit) : Int := if hlt a b then -1 else if hlt b a then 1 else 0

theorem swo_hlt (cf : Hit → Hit → Int) (h : ∀ a b, cf a b < 0 ↔ hlt a b = true) : SWO (ltOf cf) where
  irrefl x := by unfold ltOf; simp [h, hlt_irrefl]
  trans x y z h1 h2 := by unfold ltOf at *; simp only [decide_eq_true_eq, h] at *; exact hlt_lt_trans h1 h2
  ntrans x y z h1 h2 := by
    unfold ltOf at *
    simp only [decide_eq_false_iff_not, h, Bool.not_eq_true] at *
    exact hlt_le_trans h2 h1

instance : Inhabited Hit := ⟨(0, 0)⟩

theorem flatK_hits (d : Array Hit) : (flatK encH 3 d).toList = d.toList.flatMap encH := by
  apply List.ext_getElem?
  intro i
  rcases Nat.lt_or_ge i (d.size * 3) with hi | hi
  · have e : i = i / 3 * 3 + i % 3 := by omega
    have hd : i / 3 < d.size := by omega
    have hr : i % 3 < 3 := Nat.mod_lt _ (by decide)
    have hf := flat_get encH_len d.toList (i / 3) (i % 3) hr
    rw [← e] at hf
    rw [hf]
    have : (flatK encH 3 d).toList[i]? = some ((flatK encH 3 d)[i]!) := by
      rw [Array.getElem?_toList, getElem!_pos _ i (by simpa using hi), Array.getElem?_eq_getElem (by simpa using hi)]
    rw [this, get_flatK _ _ _ _ hi]
    simp [hd]
    have h2 : i % 3 < (encH d[i / 3]).length := by rw [encH_len]; exact hr
    rw [List.getElem?_eq_getElem h2]
    rfl
  · rw [List.getElem?_eq_none (by simpa using hi), List.getElem?_eq_none (by rw [flat_len encH_len]; simpa using hi)]

theorem heap_mapBlock {w : World} {g : Nat} {cur : Array Value} {T : TypeId} {fz : Nat × Nat} (f : Array Value → Array Value) (h : w.heap[g]? = some (.cells cur T fz)) :
    (mapBlock w g f).heap[g]? = some (.cells (f cur) T fz) ∧ ∀ b, b ≠ g → (mapBlock w g f).heap[b]? = w.heap[b]? := by
  unfold mapBlock
  constructor
  · simp only [Array.getElem?_modify, if_true, h, Option.map_some, onCells]
  · intro b hb
    simp only [Array.getElem?_modify]
    rw [if_neg (Ne.symm hb)]

/-- What the shelf's sorts leave behind. -/
theorem step_sorted {u : H} {w : World} (hw : Sub u w) {g : Nat} {cur : Array Value} {T : TypeId} (hg : u g = some (.cells cur T (0, 0))) (n : Nat) (f : Array Value → Array Value) (os : Array Obj) :
    Step u [] w (u.ins g (.cells (f cur) T (0, 0))) [] (grow (mapBlock (Sort.ahead w n) g f) os) := by
  have hgw : (Sort.ahead w n).heap[g]? = some (.cells cur T (0, 0)) := hw _ _ hg
  obtain ⟨h1, h2⟩ := heap_mapBlock f hgw
  have hsz : (mapBlock (Sort.ahead w n) g f).heap.size = w.heap.size := by simp [mapBlock, Sort.ahead]
  have hgr : ∀ b, b < w.heap.size → (grow (mapBlock (Sort.ahead w n) g f) os).heap[b]? = (mapBlock (Sort.ahead w n) g f).heap[b]? := by
    intro b hb
    show ((mapBlock (Sort.ahead w n) g f).heap ++ os)[b]? = _
    rw [Array.getElem?_append_left (by rw [hsz]; exact hb)]
  refine ⟨fun b o h => ?_, rfl, rfl, rfl, Nat.le_add_right _ _, ?_, fun b hb hbn _ => ?_, fun b hb hbn => ?_, [], by simp, by simp⟩
  · unfold H.ins at h
    split at h
    · rename_i hbg; subst hbg; cases h
      rw [hgr _ (hw.lt hg)]; exact h1
    · rename_i hbg
      rw [hgr _ (hw.lt h), h2 b hbg]; exact hw b o h
  · show w.heap.size ≤ ((mapBlock (Sort.ahead w n) g f).heap ++ os).size
    rw [Array.size_append, hsz]; omega
  · have : b ≠ g := fun h => by rw [h, hg] at hbn; cases hbn
    rw [hgr b hb, h2 b this]; rfl
  · have : b ≠ g := fun h => by rw [h, hg] at hbn; cases hbn
    rw [H.ins_other _ _ this]; exact hbn

theorem putCells_get {F cur : Array Value} (h : F.size ≤ cur.size) : (putCells id 0 F cur).toList.take F.size = F.toList := by
  apply List.ext_getElem?
  intro i
  rw [List.getElem?_take]
  split
  · rename_i hi
    have hc : i < cur.size := by omega
    simp only [putCells, Array.getElem?_toList, Array.getElem?_mapIdx]
    rw [Array.getElem?_eq_getElem hc, Array.getElem?_eq_getElem hi]
    simp only [Option.map_some, Nat.zero_le, true_and, Nat.zero_add, hi, if_true, Nat.sub_zero, id]
    rw [getElem!_pos F i hi]
  · rename_i hi
    rw [List.getElem?_eq_none (by simpa using hi)]

theorem putCells_size {F cur : Array Value} : (putCells id 0 F cur).size = cur.size := by simp [putCells]

theorem OwnF.resort {u0 u : H} {e k : Nat} {s : Sl} {xs : List Value} (h : OwnF u0 u e k s xs) {g : Nat} {cur : Array Value} (ha : s.a = some ⟨g, 0, none⟩) (hg : u g = some (.cells cur e (0, 0))) {F : Array Value} (hF : F.size = s.n * k) :
    OwnF u0 (u.ins g (.cells (putCells id 0 F cur) e (0, 0))) e k s F.toList ∧ Else u (u.ins g (.cells (putCells id 0 F cur) e (0, 0))) s := by
  rcases h.own.is with h0 | ⟨g', cur', ha', hg', hn, hc, hs, ht⟩
  · rw [h0] at ha; cases ha
  · rw [ha] at ha'; cases ha'
    rw [hg] at hg'; cases hg'
    have hle : s.n * k ≤ s.c * k := Nat.mul_le_mul_right _ hn
    have hblk : s.blk = some g := by simp [Sl.blk, ha]
    refine ⟨⟨⟨by simpa using hF, .inr ⟨g, _, ha, H.ins_same _ _ _, hn, hc, by rw [putCells_size]; exact hs, ?_⟩⟩, fun b o hb => ?_, h.fresh⟩, fun b o hb hne => ?_⟩
    · rw [← hF]; exact putCells_get (by rw [hF, hs]; exact hle)
    · have : b ≠ g := fun e => by rw [e, h.fresh g hblk] at hb; cases hb
      rw [H.ins_other _ _ this]; exact h.le b o hb
    · have : b ≠ g := fun e => hne (by rw [hblk, e])
      rw [H.ins_other _ _ this]; exact hb

theorem srt_of {cf : Hit → Hit → Int} (h : ∀ a b, cf a b < 0 ↔ hlt a b = true) {d : Array Hit} (hs : SortedIn (ltOf cf) 0 d.size d) : Srt d.toList := by
  refine List.pairwise_iff_getElem.2 fun i j hi hj hij => ?_
  have := hs i j (Nat.zero_le _) hij (by simpa using hj)
  simp only [Array.length_toList] at hi hj
  rw [getElem!_pos d j hj, getElem!_pos d i hi] at this
  unfold ltOf at this
  simp only [decide_eq_false_iff_not, h, Bool.not_eq_true] at this
  simpa using this

/-- slices.SortFunc, of hits, by whatever comparison that is pure and in their order. -/
theorem spec.slices_SortFunc__api_Hit_ {g : FuncId} {cf : Hit → Hit → Int} (h : ∀ a b, cf a b < 0 ↔ hlt a b = true) (eg : ∀ args w, (callFunc g args).run Tryz.prog w = .ok (.enter g args) w)
    (hcf : ∀ a b (u : H), ClT Tryz.prog g #[.agg (encH a).toArray, .agg (encH b).toArray] [.one (.int .i64)] u fun z' u' => z' = cf a b ∧ u' = u)
    {u0 u : H} {s : Sl} {l : List Hit} (ho : OwnF u0 u 63 3 s (l.flatMap encH)) (hsm : l.length < 4611686018427387904) {K : H → Prop}
    (hK : ∀ u', OwnF u0 u' 63 3 s ((sortH l).flatMap encH) → Else u u' s → K u') : C.slices_SortFunc__api_Hit_ s (.func (.func g) #[] #[]) u K := by
  intro w hw
  have hsn := ho.hts.len
  rcases ho.own.is with h0 | ⟨b, cur, ha, hg, hle, hc, hs, ht⟩
  · subst h0
    have hl : l = [] := by
      have : l.length = 0 := hsn.symm
      exact List.eq_nil_of_length_eq_zero this
    subst hl
    refine (AnyF.slices_SortFunc_none Tryz.sortHits none 0 _ w).mono ?_
    rintro e w' ⟨rfl, rfl⟩
    exact ⟨_, u, rfl, ⟨[], .nil, rfl, hK u ho (Else.refl _ _)⟩, Step.refl hw⟩
  have hH : HoldsK encH 3 w b 0 l.toArray := by
    intro j hj
    simp only [size_flatK, List.size_toArray] at hj
    have hseg := ho.own.seg
    have hl : (l.flatMap encH)[j]? = some ((flatK encH 3 l.toArray)[j]!) := by
      have := flatK_hits l.toArray
      simp only [] at this
      rw [← this, Array.getElem?_toList, getElem!_pos _ j (by simpa using hj), Array.getElem?_eq_getElem (by simpa using hj)]
    constructor
    · rcases hseg.at' with h1 | ⟨p, hp, hcell⟩
      · rw [h1] at hl; simp at hl
      · rw [ha] at hp; cases hp
        have := hw.cell (hcell j _ hl)
        rw [Addr.add_lit, Nat.zero_add] at this
        simpa using this
    · simp [World.frozen?, hw _ _ hg]
  have hcall := AnyQ.slices_SortFunc Tryz.sortHits 3 (fun w => by kernel_rfl) (fun w => by kernel_rfl) encH encH_len (fun x => encH_one x) cf (swo_hlt cf h) g #[] b 0 s.c l.toArray w eg
    (fun m os dk _ x y => by
      have := grown_of_pure (hcf x y) (sortWorldK encH 3 w b 0 m dk os)
      simpa using this) hH (hw.lt hg) (by simpa using hsm)
  simp only [List.size_toArray] at hcall
  change Calls Tryz.prog 85 _ _ _ at hcall
  rw [ha, hsn]
  refine hcall.mono ?_
  rintro e w' ⟨rfl, d', n, os, ⟨hp1, _, hp3⟩, hsrt, rfl⟩
  simp only [List.size_toArray] at hp1
  have hperm : d'.toList.Perm l := by
    have e1 : d'.extract 0 l.length = d' := by rw [← hp1]; simp
    have e2 : l.toArray.extract 0 l.length = l.toArray := by simp
    rw [e1, e2] at hp3
    simpa using hp3
  have hsrt' : Srt d'.toList := srt_of h (by rw [hp1]; exact hsrt)
  have hl : d'.toList = sortH l := sortH_of hperm hsrt'
  obtain ⟨ho', he⟩ := ho.resort ha hg (F := flatK encH 3 d') (by rw [size_flatK, hp1, hsn])
  rw [flatK_hits, hl] at ho'
  exact ⟨_, _, rfl, ⟨[], .nil, rfl, hK _ ho' he⟩, step_sorted hw hg n _ os⟩

/-! ### ints -/

def encI (x : Int) : List Value := [.int .i64 x]
theorem encI_len (x : Int) : (encI x).length = 1 := rfl
theorem encI_one (x : Int) : ∀ v ∈ encI x, v.oneCell' = true := by simp [encI, Value.oneCell']
theorem flatI (l : List Int) : l.flatMap encI = l.map fun x => .int .i64 x := by
  induction l with
  | nil => rfl
  | cons x l ih => simp [encI] at ih ⊢; exact ih

theorem OwnF.ints {u0 u : H} {e : Nat} {s : Sl} {l : List Int} (h : OwnF u0 u e 1 s (l.flatMap encI)) : Ints u s l := by
  have := h.own.seg
  rw [flatI] at this
  exact this

/-- Rising. -/
def sortI (l : List Int) : List Int := l.mergeSort fun x y => decide (x ≤ y)

theorem spec.slices_Sort___int_int_ {u0 u : H} {s : Sl} {l : List Int} (ho : OwnF u0 u 3 1 s (l.flatMap encI)) (hsm : l.length < 4611686018427387904) {K : H → Prop}
    (hK : ∀ u', OwnF u0 u' 3 1 s ((sortI l).flatMap encI) → Else u u' s → K u') : C.slices_Sort___int_int_ s u K := by
  intro w hw
  have hsn := ho.ints.len
  rcases ho.own.is with h0 | ⟨b, cur, ha, hg, hle, hc, hs, ht⟩
  · subst h0
    have hl : l = [] := by
      have : l.length = 0 := hsn.symm
      exact List.eq_nil_of_length_eq_zero this
    subst hl
    refine (AnyG.slices_Sort_int_none Tryz.sortInts none 0 w).mono ?_
    rintro e w' ⟨rfl, rfl⟩
    exact ⟨_, u, rfl, ⟨[], .nil, rfl, hK u (by simpa [sortI] using ho) (Else.refl _ _)⟩, Step.refl hw⟩
  have hH : Holds (Value.int .i64) w b 0 l.toArray := by
    intro j hj
    have hj' : j < l.length := by simpa using hj
    have hl : (l.flatMap encI)[j]? = some (.int .i64 l[j]) := by rw [flatI]; simp [hj']
    constructor
    · rcases ho.own.seg.at' with h1 | ⟨p, hp, hcell⟩
      · rw [h1] at hl; simp at hl
      · rw [ha] at hp; cases hp
        have := hw.cell (hcell j _ hl)
        rw [Addr.add_lit, Nat.zero_add] at this
        rw [getElem!_pos _ j (by simpa using hj')]
        simpa using this
    · simp [World.frozen?, hw _ _ hg]
  have hcall := AnyG.slices_Sort_int Tryz.sortInts b 0 s.c l w hH (hw.lt hg) hsm
  change Calls Tryz.prog 100 _ _ _ at hcall
  rw [ha, hsn]
  refine hcall.mono ?_
  rintro e w' ⟨rfl, n, os, rfl⟩
  have hlen : (sortI l).length = l.length := by simp [sortI]
  have hput : putCells (Value.int .i64) 0 (sortI l).toArray cur = putCells id 0 ((sortI l).map fun x => Value.int .i64 x).toArray cur := by
    unfold putCells
    apply Array.ext
    · simp
    · intro i h1 h2
      simp only [Array.getElem_mapIdx, List.size_toArray, List.length_map, Nat.zero_le, true_and, Nat.zero_add, Nat.sub_zero, id]
      split
      · rename_i hi
        rw [getElem!_pos _ i (by simpa using hi), getElem!_pos _ i (by simpa using hi)]
        simp
      · rfl
  obtain ⟨ho', he⟩ := ho.resort ha hg (F := ((sortI l).map fun x => Value.int .i64 x).toArray) (by simp [hlen, hsn])
  rw [← hput] at ho' he
  simp only [] at ho'
  rw [← flatI] at ho'
  exact ⟨_, _, rfl, ⟨[], .nil, rfl, hK _ ho' he⟩, step_sorted hw hg n _ os⟩

end Go.Proofs.YtbohcdjoglidhaaGreatDoor

/- VcTopk -/
namespace Go.Proofs.YtbohcdjoglidhaaGreatDoor

theorem compare_eq (a b : Hit) (u : H) : ClT Tryz.prog 86 #[.agg (encH a).toArray, .agg (encH b).toArray] [.one (.int .i64)] u fun z' u' => z' = cmpH a b ∧ u' = u := by
  refine spec.topk_compare (a := a) (b := b) (K := fun z' u' => z' = cmpH a b ∧ u' = u) fun z h1 h2 h3 h4 => ⟨?_, rfl⟩
  unfold cmpH
  by_cases ha : hlt a b = true
  · rw [if_pos ha]; have := h1.2 ha; omega
  · rw [if_neg ha]
    by_cases hb : hlt b a = true
    · rw [if_pos hb]; have := h2.2 hb; omega
    · rw [if_neg hb]
      have n1 : ¬ z < 0 := fun h => ha (h1.1 h)
      have n2 : ¬ 0 < z := fun h => hb (h2.1 h)
      omega

theorem cmpH_lt (a b : Hit) : cmpH a b < 0 ↔ hlt a b = true := by
  unfold cmpH
  by_cases ha : hlt a b = true
  · simp [ha]
  · rw [if_neg ha]
    split <;> simp [ha]

/-! ### the heap's methods -/

def methB (P : Program) (t : TypeId) (name : String) (f : FuncId) (ptr : Bool) : Bool :=
  match P.info? t with
  | some i => match i.methods.find? (·.name == name) with
    | some m => match m.path.toList, m.func with
      | [], some (g, b) => Nat.beq g f && (b == ptr)
      | _, _ => false
    | none => false
  | none => false

theorem methB_spec {P : Program} {t : TypeId} {name : String} {f : FuncId} {ptr : Bool} (h : methB P t name f ptr = true) :
    ∃ i m, P.info? t = some i ∧ i.methods.find? (·.name == name) = some m ∧ m.path = #[] ∧ m.func = some (f, ptr) := by
  unfold methB at h
  split at h
  · rename_i i hi
    split at h
    · rename_i m hm
      split at h
      · rename_i g b hp hf
        simp only [Bool.and_eq_true, beq_iff_eq] at h
        refine ⟨i, m, hi, hm, ?_, ?_⟩
        · apply Array.ext'; rw [hp]
        · rw [hf, Nat.eq_of_beq_eq_true h.1, h.2]
      · cases h
    · cases h
  · cases h

theorem mLen : methB Tryz.prog 184 "Len" 257 false = true := by kernel_rfl
theorem mLess : methB Tryz.prog 184 "Less" 258 false = true := by kernel_rfl
theorem mSwap : methB Tryz.prog 184 "Swap" 259 false = true := by kernel_rfl
theorem mPush : methB Tryz.prog 184 "Push" 265 true = true := by kernel_rfl
theorem shHits : shOf Tryz.prog 175 = some (.one .slice) := by kernel_rfl
theorem undHits : Tryz.prog.underlying 184 = some (.pointer 175) := by kernel_rfl
theorem tHeapHits : elemT Tryz.prog 175 = some (63, 3, 24, [.int .i64 0, .int .u64 0, .int .u64 0]) := by kernel_rfl
theorem build_hit' (x y z : Int) : buildOf Tryz.prog 175 1 #[(0, .agg #[.int .i64 x, .int .u64 y, .int .u64 z])] = some (63, [.int .i64 x, .int .u64 y, .int .u64 z]) := by kernel_rfl

theorem fuelOk : ∃ k, Tryz.prog.types.size + Made.depth = k + 1 := by
  have h : 0 < Made.depth := by decide
  generalize Tryz.prog.types.size = a
  exact ⟨a + Made.depth - 1, by omega⟩

/-- A heap of hits in block n, its bound k; u0: what was known ahead of it. -/
structure TopSt (u0 : H) (n : Nat) (k : Int) (u : H) (l : List Hit) : Prop where
  ex : ∃ s : Sl, u n = some (.cells #[.int .i64 k, .slice s.a s.n s.c] 177 (0, 0)) ∧ OwnF u0 u 63 3 s (l.flatMap encH) ∧ s.blk ≠ some n
  out : u0 n = none
  small : l.length ≤ 1000000

/-- The heap as an interface's value. -/
def heapV (n : Nat) : Value := .iface 184 (.pointer (some ((Addr.mk n 0 none).add 1)))

theorem add1 (n : Nat) : (Addr.mk n 0 none).add 1 = ⟨n, 1, none⟩ := by rw [Addr.add_lit]

theorem heap_val {u : H} {n : Nat} {k : Int} {s : Sl} {name : String} {f : FuncId} (hm : methB Tryz.prog 184 name f false = true) (hn : u n = some (.cells #[.int .i64 k, .slice s.a s.n s.c] 177 (0, 0))) (w : World) (hw : Sub u w) :
    (method (Tryz.prog.types.size + Made.depth) 184 (.pointer (some ((Addr.mk n 0 none).add 1))) name).run Tryz.prog w = .ok (f, .slice s.a s.n s.c) w := by
  obtain ⟨i, m, h1, h2, h3, h4⟩ := methB_spec hm
  obtain ⟨k', hk'⟩ := fuelOk
  rw [hk']
  refine run_method_val h1 h2 h3 h4 undHits ?_
  have hc : u.cell? ((Addr.mk n 0 none).add 1) = some (.slice s.a s.n s.c) := by rw [add1]; exact H.cell?_of hn 1
  have hcw := hw.cell hc
  exact loadVar_run shHits ((Addr.mk n 0 none).add 1) (vs := [.slice s.a s.n s.c]) rfl (run_loadCellsFrom_list _ _ _ _ _ rfl (fun j v hj => by
    cases j with
    | zero => simp at hj; subst hj; exact hcw
    | succ j => simp at hj)) (fun c hc => ⟨_, rfl, hcw⟩)

theorem getD_of {l : List Hit} {i : Nat} {x : Hit} (h : l[i]? = some x) : l.getD i default = x := by rw [List.getD_eq_getElem?_getD, h]; rfl

theorem spec.topk_hits__Less {s : Sl} {l : List Hit} {i j : Int} {u : H} {K : Bool → H → Prop} (hs : Hts u s l) (i0 : 0 ≤ i) (i1 : i < l.length) (j0 : 0 ≤ j) (j1 : j < l.length)
    (h : K (hlt (l.getD j.toNat default) (l.getD i.toNat default)) u) : C.topk_hits__Less s i j u K := by
  have hn := hs.len
  apply vc.topk_hits__Less
  obtain ⟨p, hp, x, hx, c0, c1, c2⟩ := hs.at j0 (show j < (s.n : Int) by omega)
  obtain ⟨q, hq, y, hy, d0, d1, d2⟩ := hs.at i0 (show i < (s.n : Int) by omega)
  rw [getD_of hx, getD_of hy] at h
  exact ⟨p, hp, ⟨j0, by omega⟩, q, hq, ⟨i0, by omega⟩, _, c0, _, c1, _, c2, _, d0, _, d1, _, d2, spec.topk_Less h⟩

theorem spec.topk_hits__Swap {u0 u : H} {s : Sl} {l : List Hit} {i j : Int} {K : H → Prop} (ho : OwnF u0 u 63 3 s (l.flatMap encH)) (i0 : 0 ≤ i) (i1 : i < l.length) (j0 : 0 ≤ j) (j1 : j < l.length)
    (h : ∀ u', OwnF u0 u' 63 3 s ((swapL l i.toNat j.toNat).flatMap encH) → Else u u' s → K u') : C.topk_hits__Swap s i j u K := by
  have hs := ho.hts
  have hn := hs.len
  apply vc.topk_hits__Swap
  obtain ⟨p, hp, x, hx, c0, c1, c2⟩ := hs.at j0 (show j < (s.n : Int) by omega)
  obtain ⟨q, hq, y, hy, d0, d1, d2⟩ := hs.at i0 (show i < (s.n : Int) by omega)
  refine ⟨p, hp, ⟨j0, by omega⟩, q, hq, ⟨i0, by omega⟩, _, c0, _, c1, _, c2, _, d0, _, d1, _, d2, q, hq, ⟨i0, by omega⟩, ?_⟩
  refine OwnF.store (enc := encH) encH_len ho (by decide) (i := i.toNat) (by omega) (y := x) (encH_one x) hq fun u1 ho1 he1 _ => ⟨p, hp, ⟨j0, by omega⟩, ?_⟩
  refine OwnF.store (enc := encH) encH_len ho1 (by decide) (i := j.toNat) (by simp; omega) (y := y) (encH_one y) hp fun u2 ho2 he2 _ => h u2 ?_ (fun b o hb hne => he2 b o (he1 b o hb hne) hne)
  have hil : i.toNat < l.length := by omega
  have hjl : j.toNat < l.length := by omega
  have ex : l[j.toNat] = x := by rw [List.getElem?_eq_getElem hjl] at hx; exact Option.some.inj hx
  have ey : l[i.toNat] = y := by rw [List.getElem?_eq_getElem hil] at hy; exact Option.some.inj hy
  rw [swapL_eq hil hjl, ex, ey]
  exact ho2

theorem bodyOf {P : Program} {f : FuncId} (h : hasBody P f = true) : ∃ fn, P.funcs[f]? = some fn ∧ fn.body.isSome = true := hasBody_spec h

theorem bLen : hasBody Tryz.prog 257 = true := by kernel_rfl
theorem bLess : hasBody Tryz.prog 258 = true := by kernel_rfl
theorem bSwap : hasBody Tryz.prog 259 = true := by kernel_rfl
theorem bPush : hasBody Tryz.prog 265 = true := by kernel_rfl

theorem TopSt.set {u0 u u' : H} {n : Nat} {k : Int} {l l' : List Hit} {s : Sl} (h : TopSt u0 n k u l) (hn : u n = some (.cells #[.int .i64 k, .slice s.a s.n s.c] 177 (0, 0))) (hs : s.blk ≠ some n)
    (ho : OwnF u0 u' 63 3 s (l'.flatMap encH)) (he : Else u u' s) (hl : l'.length = l.length) : TopSt u0 n k u' l' :=
  ⟨⟨s, he _ _ hn hs, ho, hs⟩, h.out, by rw [hl]; exact h.small⟩

theorem topHeap (u0 : H) (n : Nat) (k : Int) : HeapI (heapV n) (TopSt u0 n k) (fun a b => hlt b a) where
  len := by
    intro u l K h hK
    obtain ⟨s, hn, ho, _⟩ := h.ex
    refine ⟨_, _, _, _, rfl, fun w hw => heap_val mLen hn w hw, bodyOf bLen, vc.topk_hits__Len s u K ?_⟩
    rw [ho.hts.len]; exact hK
  less := by
    intro u l i j K h i0 i1 j0 j1 hK
    obtain ⟨s, hn, ho, _⟩ := h.ex
    exact ⟨_, _, _, _, rfl, fun w hw => heap_val mLess hn w hw, bodyOf bLess, spec.topk_hits__Less ho.hts i0 i1 j0 j1 hK⟩
  swap := by
    intro u l i j K h i0 i1 j0 j1 hK
    obtain ⟨s, hn, ho, hne⟩ := h.ex
    exact ⟨_, _, _, _, rfl, fun w hw => heap_val mSwap hn w hw, bodyOf bSwap, spec.topk_hits__Swap ho i0 i1 j0 j1 fun u' ho' he => hK u' (h.set hn hne ho' he (swapL_len _ _ _))⟩
  small := fun h => by have := h.small; omega

theorem heapLt : LtOk (fun a b : Hit => hlt b a) where
  asymm := fun _a _b h => hlt_asymm h
  trans := fun _a _b _c h k => hlt_le_trans k h

theorem assertHit (h : Hit) (w : World) : (Instr.typeAssert (.iface 63 (.agg #[.int .i64 h.1, .int .u64 (hiW h.2), .int .u64 (loW h.2)])) 20 63 true).run Tryz.prog w =
    .ok (.tuple #[.agg #[.int .i64 h.1, .int .u64 (hiW h.2), .int .u64 (loW h.2)], .bool true]) w := by kernel_rfl

theorem heap_push {u0 u : H} {n : Nat} {k : Int} {l : List Hit} {x : Hit} {K : H → Prop} (h : TopSt u0 n k u l) (hl : l.length < 1000000) (hK : ∀ u', TopSt u0 n k u' (l ++ [x]) → K u') :
    ClI Tryz.prog (heapV n) "Push" #[.iface 63 (.agg #[.int .i64 x.1, .int .u64 (hiW x.2), .int .u64 (loW x.2)])] [] u K := by
  obtain ⟨s, hn, ho, hne⟩ := h.ex
  obtain ⟨i, m, h1, h2, h3, h4⟩ := methB_spec mPush
  obtain ⟨k', hk'⟩ := fuelOk
  refine ⟨_, _, _, _, rfl, fun w _ => by rw [hk']; exact run_method_ptr h1 h2 h3 h4 undHits, bodyOf bPush, ?_⟩
  refine vc.topk_hits__Push (some ((Addr.mk n 0 none).add 1)) _ u K ?_
  refine SemT.pure [.int .i64 x.1, .int .u64 (hiW x.2), .int .u64 (loW x.2), .bool true] (fun w _ => ?_) (.cons (t := .int .i64) _ (.cons (t := .int .u64) _ (.cons (t := .int .u64) _ (.cons (t := .bool) _ .nil)))) ?_
  · exact assertHit x w
  · refine ⟨fun _ => ⟨_, rfl, s, by rw [add1]; exact H.cell?_of hn 1, ?_⟩, fun hb => by cases hb⟩
    refine sem_push tHeapHits (build_hit' _ _ _) (by decide) rfl (by simp [Value.oneCell']) ho (by have := ho.hts.len; omega) (by have := ho.hts.len; omega) fun s' u' ho' hn' he hblk _ => ⟨_, rfl, ?_⟩
    have hn2 := he _ _ hn hne
    have hne' : s'.blk ≠ some n := fun e => by
      rcases hblk n e with h | h
      · exact hne h
      · rw [hn] at h; cases h
    rw [add1]
    refine ⟨_, _, hn2, rfl, by simp, by simp [Value.oneCell'], hK _ ⟨⟨s', H.ins_same _ _ _, ⟨?_, ?_, ho'.fresh⟩, hne'⟩, h.out, by simp; omega⟩⟩
    · rw [flat_push] at ho'
      exact ho'.own.le fun b o hb hub => by rw [H.ins_other _ _ (fun e => hne' (by rw [hb, e]))]; exact hub
    · intro b o hb
      rw [H.ins_other _ _ (fun e => by rw [e, h.out] at hb; cases hb)]
      exact ho'.le b o hb

end Go.Proofs.YtbohcdjoglidhaaGreatDoor

/- VcTopk2 -/
namespace Go.Proofs.YtbohcdjoglidhaaGreatDoor

theorem sem_clone {P : Program} {t e : TypeId} {size bytes : Nat} {zs : List Value} (hT : elemT P t = some (e, size, bytes, zs)) (hB : buildOf P t 0 #[] = some (e, [])) (hsz : 0 < size) {u : H} {s : Sl} {xs : List Value}
    (hs : Seg u s size xs) (h1 : ∀ y ∈ xs, y.oneCell' = true) (hb : s.n * bytes ≤ 140737488355328) {K : Sl → H → Prop} (hK : ∀ s' u', OwnF u u' e size s' xs → s'.n = s.n → K s' u') :
    SemT P (Instr.buildSlice t 0 #[]) [.one .slice] u fun s0 u1 => SemT P (Builtin.append_ #[t, t] t #[.slice s0.a s0.n s0.c, .slice s.a s.n s.c]) [.one .slice] u1 K := by
  refine sem_build hB fun g hg => ?_
  have h0 := OwnF.make (k := size) (H.le.refl u) hg (cells := #[]) (e := e) (n := 0) (by omega) (by simp)
  have hmx := Nat.le_trans hs.cap hs.max
  refine sem_append hT hsz h0.own (hs.mono (H.le_ins _ hg)) h1 (by simp only [Nat.zero_add]; exact hmx) (by simpa using hb) fun s' u' ho hn hgr _ => hK s' u' ⟨by simpa using ho, hgr.le h0.le h0.fresh, fun g' hg' => hgr.out h0.le h0.fresh g' hg'⟩ (by simpa using hn)

theorem seg_nil {u : H} {s : Sl} {size : Nat} {xs : List Value} (h : Seg u s size xs) (hn : s.a = none) : xs = [] := by
  rcases h.at' with h | ⟨p, hp, _⟩
  · exact h
  · rw [hn] at hp; cases hp

theorem build_hits0 : buildOf Tryz.prog 34 0 #[] = some (63, []) := by kernel_rfl
theorem build_ints0 : buildOf Tryz.prog 22 0 #[] = some (3, []) := by kernel_rfl

theorem spec.slices_Clone__api_Hit_ {s : Sl} {l : List Hit} {u : H} {K : Sl → H → Prop} (hs : Hts u s l) (hb : s.n ≤ 1099511627776) (hK : ∀ s' u', OwnF u u' 63 3 s' (l.flatMap encH) → s'.n = s.n → K s' u') : C.slices_Clone__api_Hit_ s u K := by
  apply vc.slices_Clone__api_Hit_
  refine ⟨fun hn => ?_, fun _ => sem_clone tHits build_hits0 (by decide) hs ?_ (by omega) hK⟩
  · have hl := seg_nil hs hn
    have hl2 : s.n = 0 := by have := Seg.len hs; rw [hl] at this; simp at this; omega
    refine hK _ _ ?_ hl2.symm
    rw [hl]
    exact OwnF.nil (H.le.refl u) _ _
  · intro y hy
    obtain ⟨h, _, hy⟩ := List.mem_flatMap.1 hy
    exact encH_one h y hy

theorem spec.slices_Clone___int_int_ {s : Sl} {l : List Int} {u : H} {K : Sl → H → Prop} (hs : Ints u s l) (hb : s.n ≤ 1099511627776) (hK : ∀ s' u', OwnF u u' 3 1 s' (l.flatMap encI) → s'.n = s.n → K s' u') : C.slices_Clone___int_int_ s u K := by
  have hs' : Seg u s 1 (l.flatMap encI) := by rw [flatI]; exact hs
  apply vc.slices_Clone___int_int_
  refine ⟨fun hn => ?_, fun _ => sem_clone tInts build_ints0 (by decide) hs' ?_ (by omega) hK⟩
  · have hl := seg_nil hs' hn
    have hl2 : s.n = 0 := by have := Seg.len hs'; rw [hl] at this; simp at this; omega
    refine hK _ _ ?_ hl2.symm
    rw [hl]
    exact OwnF.nil (H.le.refl u) _ _
  · intro y hy
    obtain ⟨h, _, hy⟩ := List.mem_flatMap.1 hy
    exact encI_one h y hy

/-- A heap that holds the first k of what it was offered. -/
def TopAt (u0 : H) (n : Nat) (k : Int) (u : H) (S : List Hit) : Prop := ∃ l, TopSt u0 n k u l ∧ Hp (fun a b => hlt b a) l.length l ∧ l.Perm (topk k.toNat S)

theorem TopAt.le {u0 u : H} {n : Nat} {k : Int} {S : List Hit} (h : TopAt u0 n k u S) : u0.le u := by
  obtain ⟨l, h, _, _⟩ := h
  obtain ⟨s, _, ho, _⟩ := h.ex
  exact ho.le

theorem TopAt.mono {u0 u u' : H} {n : Nat} {k : Int} {S : List Hit} (h : TopAt u0 n k u S) (hu : u.le u') : TopAt u0 n k u' S := by
  obtain ⟨l, h, h2, h3⟩ := h
  obtain ⟨s, hn, ho, hne⟩ := h.ex
  exact ⟨l, ⟨⟨s, hu _ _ hn, ho.mono hu, hne⟩, h.out, h.small⟩, h2, h3⟩

theorem TopAt.rebase {u0 u : H} {n : Nat} {k : Int} {S : List Hit} (h : TopAt u0 n k u S) {m : Nat} (hm : u m = none) (o : Obj) : TopAt (u0.ins m o) n k (u.ins m o) S := by
  obtain ⟨l, h, h2, h3⟩ := h
  obtain ⟨s, hn, ho, hne⟩ := h.ex
  have hmn : n ≠ m := fun e => by rw [e, hm] at hn; cases hn
  exact ⟨l, ⟨⟨s, by rw [H.ins_other _ _ hmn]; exact hn, ho.rebase hm o, hne⟩, by rw [H.ins_other _ _ hmn]; exact h.out, h.small⟩, h2, h3⟩

theorem TopAt.perm {u0 u : H} {n : Nat} {k : Int} {S T : List Hit} (h : TopAt u0 n k u S) (hp : S.Perm T) : TopAt u0 n k u T := by
  obtain ⟨l, h1, h2, h3⟩ := h
  exact ⟨l, h1, h2, by rw [← topk_eq hp]; exact h3⟩

theorem spec.topk_New {k : Int} {u : H} {K : Option Addr → Int → H → Prop} (hbad : k < 1 ∨ 64 < k → K none 1 u) (hok : 1 ≤ k → k ≤ 64 → ∀ n u', u.le u' → u n = none → TopAt u n k u' [] → K (some ⟨n, 0, none⟩) 0 u') : C.topk_New k u K := by
  apply vc.topk_New
  refine ⟨fun h => hbad (.inl h), fun h => ⟨fun h2 => hbad (.inr h2), fun h2 n hn => hok (by omega) (by omega) n _ (H.le_ins _ hn) hn ?_⟩⟩
  refine ⟨[], ⟨⟨⟨none, 0, 0⟩, H.ins_same _ _ _, OwnF.nil (H.le_ins _ hn) _ _, by simp [Sl.blk]⟩, hn, by simp⟩, fun i _ hi => by simp at hi, ?_⟩
  simp [topk, sortH]

theorem spec.topk_Heap__Offer {u0 u : H} {n : Nat} {k : Int} {S : List Hit} {x : Hit} {K : Bool → H → Prop} (h : TopAt u0 n k u S) (k1 : 1 ≤ k) (k2 : k ≤ 64) (hK : ∀ b u', TopAt u0 n k u' (x :: S) → K b u') :
    C.topk_Heap__Offer (some ⟨n, 0, none⟩) x.1 (hiW x.2) (loW x.2) u K := by
  obtain ⟨l, hst, hh, hp⟩ := h
  obtain ⟨s, hn, ho, hne⟩ := hst.ex
  have hlen := hp.length_eq
  rw [topk_len] at hlen
  have hsn := ho.hts.len
  apply vc.topk_Heap__Offer
  have hc1 : u.cell? ((Addr.mk n 0 none).add 1) = some (.slice s.a s.n s.c) := by rw [add1]; exact H.cell?_of hn 1
  refine ⟨fun hx => (by cases hx), fun _ => ⟨_, rfl, _, rfl, s, hc1, k, H.cell?_of hn 0, fun hlt' => ⟨_, rfl, ?_⟩, fun hge => ?_⟩⟩
  · refine spec.heap_Push (topHeap u0 n k) heapLt (y := x) hh (fun hK' => heap_push hst (by omega) hK') fun u' l' hs' hp' hh' => hK true u' ⟨l', hs', hh', ?_⟩
    have hS : S.length < k.toNat := by omega
    obtain ⟨t1, t2⟩ := topk_room (x := x) hS
    exact hp'.trans (List.perm_append_singleton _ _ |>.trans ((List.Perm.cons x (hp.trans t2)).trans t1.symm))
  · have hk : l.length = k.toNat := by omega
    have hS : k.toNat ≤ S.length := by omega
    obtain ⟨p, hp1, r, hr, c0, c1, c2⟩ := ho.hts.at (x := 0) (by omega) (by omega)
    obtain ⟨t, rfl⟩ : ∃ t, l = r :: t := by
      cases l with
      | nil => simp at hr
      | cons a t => simp at hr; subst hr; exact ⟨t, rfl⟩
    have hroot : ∀ y ∈ r :: t, hlt r y = false := by
      intro y hy
      obtain ⟨i, hi, rfl⟩ := List.mem_iff_getElem.1 hy
      have := Hp.root heapLt hh i hi
      simpa [List.getD_eq_getElem?_getD, List.getElem?_eq_getElem hi] using this
    refine ⟨_, rfl, s, hc1, p, hp1, ⟨by omega, by omega⟩, _, c0, _, c1, _, c2, spec.topk_Less ⟨fun hb => hK false u ⟨r :: t, hst, hh, ?_⟩, fun hb => ⟨_, rfl, s, hc1, p, hp1, ⟨by omega, by omega⟩, ?_⟩⟩⟩
    · rw [topk_worse hS fun y hy => hlt_le_trans (hroot y (hp.mem_iff.2 hy)) (by simpa using hb)]
      exact hp
    · refine OwnF.store (enc := encH) encH_len ho (by decide) (i := 0) (by simp) (y := x) (encH_one x) hp1 fun u1 ho1 he1 _ => ⟨_, rfl, ?_⟩
      have hst1 : TopSt u0 n k u1 ((r :: t).set 0 x) := hst.set hn hne ho1 he1 (by simp)
      refine spec.heap_Fix (topHeap u0 n k) heapLt hst1 (by simp) (by simpa using hh.downI (Nat.le_refl _) x) fun u' l' hs' hp' hh' => hK true u' ⟨l', hs', hh', ?_⟩
      exact hp'.trans (topk_better hp hroot hb (by rw [topk_len]; omega))

theorem spec.topk_Heap__List {u0 u : H} {n : Nat} {k : Int} {S : List Hit} {K : Sl → H → Prop} (h : TopAt u0 n k u S) (hK : ∀ s' u', OwnF u u' 63 3 s' ((topk k.toNat S).flatMap encH) → K s' u') :
    C.topk_Heap__List (some ⟨n, 0, none⟩) u K := by
  obtain ⟨l, hst, hh, hp⟩ := h
  obtain ⟨s, hn, ho, hne⟩ := hst.ex
  have hsm := hst.small
  have hsn := ho.hts.len
  apply vc.topk_Heap__List
  have hc1 : u.cell? ((Addr.mk n 0 none).add 1) = some (.slice s.a s.n s.c) := by rw [add1]; exact H.cell?_of hn 1
  refine ⟨fun hx => (by cases hx), fun _ => ⟨_, rfl, s, hc1, spec.slices_Clone__api_Hit_ ho.hts (by omega) fun s' u' ho' _ => ?_⟩⟩
  refine spec.slices_SortFunc__api_Hit_ (cf := cmpH) cmpH_lt (enters_of Tryz.func86 (by kernel_rfl) rfl) compare_eq ho' (by omega) fun u2 ho2 _ => hK s' u2 ?_
  rw [sortH_eq hp] at ho2
  rw [← sortH_of (.refl _) (topk_srt _ _)] at ho2
  exact ho2

end Go.Proofs.YtbohcdjoglidhaaGreatDoor

/- VcRange -/
namespace Go.Proofs.YtbohcdjoglidhaaGreatDoor
open Go.RowKit

def noDefer (o : Oper) : Bool := match o.op with
  | .defer _ => false
  | _ => true

/-- Code that a round's body may be, here. -/
def plainC : Code → Bool
  | .skip => true
  | .seq a b => plainC a && plainC b
  | .cond _ a b => plainC a && plainC b
  | .block _ b => plainC b
  | .region _ ops _ => ops.toList.all noDefer
  | _ => false

theorem noDefer_spec {o : Oper} (h : noDefer o = true) : ∀ c, o.op ≠ .defer c := fun c hc => by
  unfold noDefer at h
  rw [hc] at h; cases h

/-- Whatever order is picked, in a round too. -/
theorem wpAny_In {P : Program} {ops : Array Oper} {Q : Exit → Act → World → Prop} (hd : ∀ o ∈ ops.toList, noDefer o = true) (hQ : ¬ LetsOut Q) (ro : Option Nat) : ∀ (fuel : Nat) (listed : Array Bool) (a : Act) (w : World),
    wpAny P .any ops Q fuel listed a w → wpAnyIn (Fr ro) 0 P .any ops Q fuel listed a w := by
  intro fuel
  induction fuel with
  | zero => intro listed a w h; exact h
  | succ fuel ih =>
    intro listed a w h
    refine ⟨h.1, fun i hi => ?_⟩
    have h2 := h.2 i hi
    unfold wpOp at h2
    unfold wpOpIn
    cases ho : ops[i]? with
    | none => rw [ho] at h2; exact ih _ _ _ h2
    | some o =>
      rw [ho] at h2
      simp only at h2 ⊢
      split at h2
      · rename_i hw
        rw [if_pos hw]
        rcases h2 with h3 | h3
        · exact Go.Oper.wpIn_mono (fun a w h => ih _ _ _ h) (wp_to_In ro (.inr (noDefer_spec (hd o (by rw [Array.mem_toList_iff]; exact Array.mem_of_getElem? ho)))) h3)
        · exact absurd h3.2 hQ
      · rename_i hw
        rw [if_neg hw]
        exact ⟨fun _ _ => trivial, ih _ _ _ h2⟩

section
variable {C : Cfg} {wrt : Nat → Bool} {s : St} {u : H} {bs : List Nat} {a : Act} {w : World}

set_option maxHeartbeats 1000000 in
theorem code_soundIn (hG : Good C) (ro : Option Nat) : ∀ (c : Code), plainC c = true → ∀ (p : Nat) (wrt : Nat → Bool) (Q : Exit → St → H → Prop) (s : St) (u : H), WPc C [] c p wrt Q s u →
    ∀ (bs : List Nat) (a : Act) (w : World), Fits s bs u a w → c.wpIn (Fr ro) 0 C.P (Post wrt s bs u a w (codeDsts c) Q) a w := by
  intro c
  induction c with
  | skip =>
    intro _ p wrt Q s u h bs a w hf
    exact wpIn_skip ⟨fun _ => Exit.noConfusion, s, u, bs, h, hf, Step.refl hf.sub, Kept.refl _ _, fun _ _ => rfl⟩
  | region id ops dr =>
    intro hpl p wrt Q s u h bs a w hf
    cases dr with
    | true =>
      simp only [plainC, List.all_eq_true] at hpl
      simp only [WPc] at h
      split at h
      · rename_i hsel
        have hfd : Fits s bs u a { w with drawn := w.drawn + 1 } := ⟨hf.toFitsE, hf.len, hf.loc, hf.nodup, hf.hid, hf.sub⟩
        have hcl : Closed ops (Array.replicate ops.size false) := by
          intro j o _ hj
          have : (Array.replicate ops.size false).getD j false = false := by
            rw [Array.getD_eq_getD_getElem?, Array.getElem?_replicate]; split <;> rfl
          rw [this] at hj; cases hj
        have hco : Cont wrt s bs u a { w with drawn := w.drawn + 1 } (memB (codeDsts (.region id ops true))) (Q .normal) (fun a' w' => Exit.normal = .normal ∧ Post wrt s bs u a w (codeDsts (.region id ops true)) Q .normal a' w') := by
          intro s' u' bs' a' w' hk hf' hs hkp ha
          exact ⟨rfl, fun _ => Exit.noConfusion, s', u', bs', hk, hf', (Step.draws hf.sub (Nat.le_succ _)).trans hs, hkp, ha⟩
        have hin : (Code.region id ops true).wpIn (Fr ro) 0 C.P (fun e a' w' => e = .normal ∧ Post wrt s bs u a w (codeDsts (.region id ops true)) Q .normal a' w') a w := by
          refine wpIn_region_any hG.mixed (wpAny_In hpl (fun hl => by obtain ⟨_, _, h, _⟩ := hl; exact Exit.noConfusion h) ro _ _ _ _ ?_)
          split at h
          · refine wpAny_of_G (nd := ndOf ops) (S := FitsW s.loc bs u) _ _ _ _ ?_
            exact draw_sound hG (ds := memB (codeDsts (.region id ops true))) (loc0 := s.loc) (bs0 := bs) hsel (fun c a w hp => Exit.noConfusion hp.1) (fun o ho d hd => dst_mem ho hd) _ _ _ s u h bs a _ _ hfd hcl (by unfold left; simp) (fun _ => ⟨H.le.refl u, rfl, rfl⟩) ⟨[], by simp⟩ hco
          · obtain ⟨v0, hle0, h⟩ := h
            refine wpAny_of_R (R := RelP ops s.loc bs v0 u) _ _ _ _ ?_
            exact drawP_sound hG (ds := memB (codeDsts (.region id ops true))) (loc0 := s.loc) (bs0 := bs) hle0 hsel (fun c a w hp => Exit.noConfusion hp.1) (fun o ho d hd => dst_mem ho hd) _ _ _ s u h bs a _ _ hfd hcl (by unfold left; simp) (fun _ => ⟨H.le.refl u, rfl, rfl⟩) ⟨[], by simp⟩ hco
        exact wpIn_mono hin fun e a' w' ⟨h1, h2⟩ => by rw [h1]; exact h2
      · exact h.elim
    | false =>
      simp only [plainC, List.all_eq_true] at hpl
      simp only [WPc] at h
      refine wpIn_region_list (seq_soundIn hG ro (ds := memB (codeDsts (.region id ops false))) ops.toList s u bs a w h hf (.inr fun o ho c hc => ?_) (fun o ho d hd => dst_mem ho hd) ?_)
      · have := hpl o ho
        unfold noDefer at this
        rw [hc] at this; cases this
      · intro s' u' bs' a' w' hk hf' hs hkp ha
        exact ⟨fun _ => Exit.noConfusion, s', u', bs', hk, hf', hs, hkp, ha⟩
  | seq x y ihx ihy =>
    intro hpl p wrt Q s u h bs a w hf
    have hdx : ∀ d, memB (codeDsts (.seq x y)) d = false → memB (codeDsts x) d = false := fun d h => by simp only [codeDsts, memB_append, Bool.or_eq_false_iff] at h; exact h.1
    have hdy : ∀ d, memB (codeDsts (.seq x y)) d = false → memB (codeDsts y) d = false := fun d h => by simp only [codeDsts, memB_append, Bool.or_eq_false_iff] at h; exact h.2
    simp only [plainC, Bool.and_eq_true] at hpl
    simp only [WPc, annAt] at h
    · refine wpIn_seq (Code.wpIn_mono ?_ (ihx hpl.1 _ _ _ s u h bs a w hf))
      intro e a' w' hp
      obtain ⟨hne, s', u', bs', hq, hf', hs, hk, ha⟩ := hp
      cases e with
      | normal =>
        refine Code.wpIn_mono ?_ (ihy hpl.2 _ _ _ s' u' hq bs' a' w' hf')
        intro e2 a2 w2 hp2
        exact Post.next hs hk (fun d hd => ha d (hdx d hd)) (hp2.mono hdy)
      | exit id => exact ⟨hne, s', u', bs', hq, hf', hs, hk, fun d hd => ha d (hdx d hd)⟩
      | goto l => exact ⟨hne, s', u', bs', hq, hf', hs, hk, fun d hd => ha d (hdx d hd)⟩
      | ret => exact ⟨hne, s', u', bs', hq, hf', hs, hk, fun d hd => ha d (hdx d hd)⟩
      | panic c => exact absurd rfl (hne c)
      | outgrown => exact ⟨hne, s', u', bs', hq, hf', hs, hk, fun d hd => ha d (hdx d hd)⟩
  | cond c x y ihx ihy =>
    intro hpl p wrt Q s u h bs a w hf
    simp only [plainC, Bool.and_eq_true] at hpl
    have hdx : ∀ d, memB (codeDsts (.cond c x y)) d = false → memB (codeDsts x) d = false := fun d h => by simp only [codeDsts, memB_append, Bool.or_eq_false_iff] at h; exact h.1
    have hdy : ∀ d, memB (codeDsts (.cond c x y)) d = false → memB (codeDsts y) d = false := fun d h => by simp only [codeDsts, memB_append, Bool.or_eq_false_iff] at h; exact h.2
    have hx : ∀ (st : St), a.eval c = .bool true → Fits st bs u a w → (st.loc = s.loc ∧ st.n = s.n) → WPc C [] x (2 * p) wrt Q st u → (Code.cond c x y).wpIn (Fr ro) 0 C.P (Post wrt s bs u a w (codeDsts (.cond c x y)) Q) a w := by
      intro st hc hfs hsn hw
      refine wpIn_cond_true hc (Code.wpIn_mono ?_ (ihx hpl.1 _ _ _ st u hw bs a w hfs))
      intro e a' w' hp
      exact Post.next (Step.refl hf.sub) ⟨hsn.2, by rw [hsn.1]; exact Nat.le_refl _, fun i cs e _ => by rw [hsn.1]; exact e⟩ (fun _ _ => rfl) (hp.mono hdx)
    have hy : ∀ (st : St), a.eval c = .bool false → Fits st bs u a w → (st.loc = s.loc ∧ st.n = s.n) → WPc C [] y (2 * p + 1) wrt Q st u → (Code.cond c x y).wpIn (Fr ro) 0 C.P (Post wrt s bs u a w (codeDsts (.cond c x y)) Q) a w := by
      intro st hc hfs hsn hw
      refine wpIn_cond_false hc (Code.wpIn_mono ?_ (ihy hpl.2 _ _ _ st u hw bs a w hfs))
      intro e a' w' hp
      exact Post.next (Step.refl hf.sub) ⟨hsn.2, by rw [hsn.1]; exact Nat.le_refl _, fun i cs e _ => by rw [hsn.1]; exact e⟩ (fun _ _ => rfl) (hp.mono hdy)
    have hsome : ∀ v, s.sv c = some v → ∀ t, c = .tmp t → (look s.env t).isSome = true := fun v hv t ht => by subst ht; simp only [St.sv] at hv; rw [hv]; rfl
    simp only [WPc] at h
    split at h
    · rename_i hc; exact hx s (Option.some.inj (hf.sv hc)).symm hf ⟨rfl, rfl⟩ h
    · rename_i hc; exact hy s (Option.some.inj (hf.sv hc)).symm hf ⟨rfl, rfl⟩ h
    · rename_i q d hc
      have hev := (Option.some.inj (hf.sv hc)).symm
      by_cases hq : q
      · have e1 : a.eval c = .bool true := by rw [hev]; simp [hq]
        obtain ⟨h1, h2⟩ := tell_fits (x := .tt) hf (by rw [e1]; rfl) (hsome _ hc)
        exact hx _ e1 h1 h2 (h.1 hq)
      · have e1 : a.eval c = .bool false := by rw [hev]; simp [hq]
        obtain ⟨h1, h2⟩ := tell_fits (x := .ff) hf (by rw [e1]; rfl) (hsome _ hc)
        exact hy _ e1 h1 h2 (h.2 hq)
    · rename_i q d hc
      have hev := (Option.some.inj (hf.sv hc)).symm
      by_cases hq : q
      · have e1 : a.eval c = .bool false := by rw [hev]; simp [hq]
        obtain ⟨h1, h2⟩ := tell_fits (x := .ff) hf (by rw [e1]; rfl) (hsome _ hc)
        exact hy _ e1 h1 h2 (h.2 hq)
      · have e1 : a.eval c = .bool true := by rw [hev]; simp [hq]
        obtain ⟨h1, h2⟩ := tell_fits (x := .tt) hf (by rw [e1]; rfl) (hsome _ hc)
        exact hx _ e1 h1 h2 (h.1 hq)
    · rename_i b hc
      have hev := (Option.some.inj (hf.sv hc)).symm
      cases b with
      | true =>
        obtain ⟨h1, h2⟩ := tell_fits (x := .tt) hf (by rw [hev]; rfl) (hsome _ hc)
        exact hx _ hev h1 h2 (h.1 rfl)
      | false =>
        obtain ⟨h1, h2⟩ := tell_fits (x := .ff) hf (by rw [hev]; rfl) (hsome _ hc)
        exact hy _ hev h1 h2 (h.2 rfl)
    · exact h.elim
  | block id b ih =>
    intro hpl p wrt Q s u h bs a w hf
    simp only [plainC] at hpl
    simp only [WPc] at h
    refine wpIn_block (Code.wpIn_mono ?_ (ih hpl _ _ _ s u h bs a w hf))
    intro e a' w' hp
    obtain ⟨hne, s', u', bs', hq, hf', hs, hk, ha⟩ := hp
    cases e with
    | exit j =>
      simp only at hq
      simp only [Exit.inBlock]
      split at hq
      · rename_i hj
        have := Nat.eq_of_beq_eq_true hj
        subst this
        rw [if_pos rfl]
        exact ⟨fun _ => Exit.noConfusion, s', u', bs', hq, hf', hs, hk, ha⟩
      · rename_i hj
        rw [if_neg (fun e => by subst e; rw [Nat.beq_refl] at hj; cases hj)]
        exact ⟨hne, s', u', bs', hq, hf', hs, hk, ha⟩
    | normal => exact ⟨hne, s', u', bs', hq, hf', hs, hk, ha⟩
    | goto l => exact ⟨hne, s', u', bs', hq, hf', hs, hk, ha⟩
    | ret => exact ⟨hne, s', u', bs', hq, hf', hs, hk, ha⟩
    | panic c => exact absurd rfl (hne c)
    | outgrown => exact ⟨hne, s', u', bs', hq, hf', hs, hk, ha⟩
  | label l => intro h; simp [plainC] at h
  | ret => intro h; simp [plainC] at h
  | exit id => intro h; simp [plainC] at h
  | goto l => intro h; simp [plainC] at h
  | refuse r => intro h; simp [plainC] at h
  | rangeFunc f ps x y => intro h; simp [plainC] at h
  | scope b ih => intro h; simp [plainC] at h
  | loop b ih => intro h; simp [plainC] at h

end

end Go.Proofs.YtbohcdjoglidhaaGreatDoor

/- VcFlat -/
namespace Go.Proofs.YtbohcdjoglidhaaGreatDoor

/-! ### TopK -/

/-- What the errors of a search for the first k are. -/
def topErr (l : List Rw) (q : List Int) (k : Int) : Int := if asked l q ≠ 0 then asked l q else if k < 1 ∨ 64 < k then 1 else 0

end Go.Proofs.YtbohcdjoglidhaaGreatDoor

/- VcFlat2 -/
namespace Go.Proofs.YtbohcdjoglidhaaGreatDoor

/-- All within a radius, in their order. -/
def within (R : Int) (l : List Hit) : List Hit := sortH (l.filter fun h => decide (h.2 ≤ R))

theorem st_one {u : H} {n : Nat} {old v : Value} {T : TypeId} {f : H → Prop} (hn : u n = some (.cells #[old] T (0, 0))) (h1 : v.oneCell' = true) (hf : f (u.ins n (.cells #[v] T (0, 0)))) : H.St u ⟨n, 0, none⟩ [v] f :=
  ⟨_, _, hn, rfl, by simp, by simp [h1], hf⟩

end Go.Proofs.YtbohcdjoglidhaaGreatDoor

/- VcBox -/
namespace Go.Proofs.YtbohcdjoglidhaaGreatDoor

theorem build_int (x : Int) : buildOf Tryz.prog 22 1 #[(0, .int .i64 x)] = some (3, [.int .i64 x]) := by kernel_rfl

theorem own_ne_map {u0 u : H} {e k : Nat} {s : Sl} {xs : List Value} {b : Nat} {l : List Int} (h : OwnF u0 u e k s xs) (hb : SetOf u b l) : s.blk ≠ some b := by
  intro hx
  obtain ⟨es, c, hbm, _⟩ := hb
  rcases h.own.is with h0 | ⟨g, cur, ha, hg, _⟩
  · rw [h0] at hx; simp [Sl.blk] at hx
  · have : g = b := by simpa [Sl.blk, ha] using hx
    rw [this, hbm] at hg; cases hg

theorem take_ids {l : List Rw} {i : Nat} {r : Rw} (h : l[i]? = some r) : (l.take (i + 1)).map (·.id) = (l.take i).map (·.id) ++ [r.id] := by
  rw [List.take_add_one, h]; simp

theorem spec.vec_ids {s : Sl} {l : List Rw} {d : Int} {u : H} {K : Sl → Int → H → Prop} (hs : Rws u s l) (hok : Rok l d) (hK : ∀ s' u', OwnF u u' 3 1 s' ((sortI (l.map (·.id))).flatMap encI) → K s' 0 u') : C.vec_ids s d u K := by
  have hn := hs.len
  have hlen := hok.len
  apply vc.vec_ids
  refine ⟨fun h => by omega, fun _ => sem_makeMap fun b hb hset => ?_⟩
  refine ⟨fun _ _ s6 i v => 0 ≤ i ∧ i ≤ (s.n : Int) ∧ SetOf v b ((l.take i.toNat).map (·.id)) ∧ OwnF u v 3 1 s6 (((l.take i.toNat).map (·.id)).flatMap encI), fun _ _ _ i _ => s.n - i.toNat,
    ⟨by omega, by omega, by simpa using hset, OwnF.nil (H.le_ins _ hb) _ _⟩, ?_⟩
  rintro s4 x5 s6 i v ⟨i0, i1, hset, ho⟩
  refine ⟨fun hi => ?_, fun hi => ?_⟩
  · obtain ⟨p, hp, r, hr, c0, c1, hv⟩ := (hs.mono ho.le).at i0 hi
    have hrm := List.mem_of_getElem? hr
    have hid := hok.id r hrm
    obtain ⟨hvl, hvok⟩ := hok.v r hrm
    have hnew : r.id ∉ (l.take i.toNat).map (·.id) := by
      have hnd := hok.nodup
      have hsub : ((l.take (i.toNat + 1)).map (·.id)).Nodup := List.Nodup.sublist (List.Sublist.map _ (List.take_sublist _ _)) hnd
      rw [take_ids hr] at hsub
      exact fun hm => (List.nodup_append.1 hsub).2.2 _ hm _ (by simp) rfl
    have hvc : vcheck r.v d = 0 := by rw [← hvl]; exact ok_vcheck hvok (by have := hok.dim; omega)
    refine ⟨p, hp, ⟨i0, hi⟩, _, c0, _, c1, fun K12 hK12 => ⟨fun h => by omega, fun _ => ⟨fun h => by omega, fun _ => sem_lookup setTy hset ⟨fun h => absurd (by simpa using h) hnew, fun _ => hK12 _ _ _ ?_⟩⟩⟩⟩
    refine spec.vec_Check hv ⟨fun h => absurd hvc h, fun _ => sem_mapAdd setTy hset hnew fun v' hset' hkeep hkn => ?_⟩
    have hne := own_ne_map ho hset
    have ho' : OwnF u v' 3 1 s6 (((l.take i.toNat).map (·.id)).flatMap encI) :=
      ⟨ho.own.le fun g o hg hvg => hkeep g o hvg (fun e => hne (by rw [hg, e])), fun g o hg => hkeep g o (ho.le g o hg) (fun e => by rw [e, hb] at hg; cases hg), ho.fresh⟩
    have hn6 := ho'.ints.len
    simp only [List.length_map, List.length_take] at hn6
    refine sem_push' tInts (build_int _) (by decide) rfl (by simp [Value.oneCell']) ho' (by omega) (by omega) fun s' u' ho2 hn2 hel hbl _ => ⟨⟨by omega, by omega⟩, ⟨by omega, by omega, ?_, ?_⟩, by dsimp only; omega⟩
    · rw [show (i + 1).toNat = i.toNat + 1 by omega, take_ids hr]
      obtain ⟨es, c, h1, h2⟩ := hset'
      exact ⟨es, c, hel _ _ h1 hne, h2⟩
    · rw [show (i + 1).toNat = i.toNat + 1 by omega, take_ids hr, List.flatMap_append]
      exact ho2
  · have hi' : i.toNat = l.length := by omega
    rw [hi', List.take_length] at ho
    exact spec.slices_Sort___int_int_ ho (by simp; omega) fun u' ho' _ => hK s6 u' ho'

/-- The least, the greatest of coordinates, row by row. -/
def mnL (acc v : List Int) : List Int := List.zipWith (fun a x => if x < a then x else a) acc v
def mxL (acc v : List Int) : List Int := List.zipWith (fun a x => if x > a then x else a) acc v

def boxLo (l : List Rw) : List Int := l.foldl (fun acc r => mnL acc r.v) (l.headD ⟨0, ⟨none, 0, 0⟩, []⟩).v
def boxHi (l : List Rw) : List Int := l.foldl (fun acc r => mxL acc r.v) (l.headD ⟨0, ⟨none, 0, 0⟩, []⟩).v

end Go.Proofs.YtbohcdjoglidhaaGreatDoor
