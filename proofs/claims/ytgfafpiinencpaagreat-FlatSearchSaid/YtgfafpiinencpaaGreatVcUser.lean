/- What one needs at hand in proofs over the formulas. -/
import Derived.Test.YtgfafpiinencpaaGreatVcFns
import Derived.Laws.MathBits
import Derived.Laws.Externs
import Derived.IntWalk
import Derived.DataElems
namespace Go.Proofs.YtgfafpiinencpaaGreat

theorem InR.of {x : Int} (h1 : -9223372036854775808 ≤ x) (h2 : x ≤ 9223372036854775807) : InR x := ⟨h1, h2⟩

theorem H.cell?_mono {u u' : H} (h : u.le u') {a : Addr} {v : Value} (e : u.cell? a = some v) : u'.cell? a = some v := by
  unfold H.cell? at e ⊢
  split at e
  · rename_i c t f hb
    rw [h _ _ hb]
    exact e
  · cases e

/-- An answer that leaves the world alone. -/
theorem SemT.pure {P : Program} {m : Sem Value} {ss : List Sh} {u : H} {K : Cur (ctsOf ss) (H → Prop)} (vs : List Value) (h : ∀ w, Sub u w → m.run P w = .ok (encRes ss vs) w)
    (hk : Kinds (ctsOf ss) vs) (hK : unC (ctsOf ss) K vs fun r => r u) : SemT P m ss u K :=
  fun w hw => ⟨_, w, u, h w hw, ⟨vs, hk, rfl, hK⟩, Step.refl hw⟩

/-- Cells of a slice's elements, each of so many cells. -/
structure Seg (u : H) (s : Sl) (size : Nat) (xs : List Value) : Prop where
  len : xs.length = s.n * size
  cap : s.n ≤ s.c
  max : s.c ≤ 9223372036854775807
  at' : xs = [] ∨ ∃ p, s.a = some p ∧ ∀ i v, xs[i]? = some v → u.cell? (p.add i) = some v

theorem Seg.mono {u u' : H} {s : Sl} {size : Nat} {xs : List Value} (h : Seg u s size xs) (k : u.le u') : Seg u' s size xs :=
  ⟨h.len, h.cap, h.max, h.at'.imp id fun ⟨p, h1, h2⟩ => ⟨p, h1, fun i v e => H.cell?_mono k (h2 i v e)⟩⟩

theorem Seg.get {u : H} {s : Sl} {size : Nat} {xs : List Value} (h : Seg u s size xs) {i : Nat} (hi : i < xs.length) : ∃ p, s.a = some p ∧ ∀ i v, xs[i]? = some v → u.cell? (p.add i) = some v := by
  rcases h.at' with h | h
  · subst h; simp at hi
  · exact h

/-- A slice of ints. -/
def Ints (u : H) (s : Sl) (l : List Int) : Prop := Seg u s 1 (l.map fun x => .int .i64 x)

theorem Ints.mono {u u' : H} {s : Sl} {l : List Int} (h : Ints u s l) (k : u.le u') : Ints u' s l := Seg.mono h k
theorem Ints.len {u : H} {s : Sl} {l : List Int} (h : Ints u s l) : s.n = l.length := by
  have := Seg.len h; simp at this; exact this.symm
theorem Ints.max {u : H} {s : Sl} {l : List Int} (h : Ints u s l) : s.n ≤ 9223372036854775807 := Nat.le_trans (Seg.cap h) (Seg.max h)

/-- An element read through the formula's own words. -/
theorem Ints.read {u : H} {s : Sl} {l : List Int} (h : Ints u s l) {x : Int} (h0 : 0 ≤ x) (h1 : x < (s.n : Int)) :
    ∃ p, s.a = some p ∧ ∃ (hl : x.toNat < l.length), u.cell? (p.add (x.toNat * 1)) = some (.int .i64 l[x.toNat]) := by
  have hn := h.len
  have hlt : x.toNat < l.length := by omega
  obtain ⟨p, hp, hc⟩ := Seg.get h (i := x.toNat) (by simpa using hlt)
  refine ⟨p, hp, hlt, ?_⟩
  rw [Nat.mul_one]
  exact hc _ _ (by simp [hlt])

/-- The same, the element by its number. -/
theorem Ints.at {u : H} {s : Sl} {l : List Int} (h : Ints u s l) {x : Int} (h0 : 0 ≤ x) (h1 : x < (s.n : Int)) : ∃ p, s.a = some p ∧ u.cell? (p.add (x.toNat * 1)) = some (.int .i64 (l.getD x.toNat 0)) := by
  obtain ⟨p, hp, hl, hc⟩ := h.read h0 h1
  exact ⟨p, hp, by rw [hc]; simp [hl]⟩

end Go.Proofs.YtgfafpiinencpaaGreat
