/- Rows and hits in memory; the document's comparisons and checks; the program's checks. -/
import Derived.Test.YtgfafpiinencpaaGreatVcMem
import Derived.Test.YtgfafpiinencpaaGreatVcWide
import Derived.Test.YtgfafpiinencpaaGreatVcHits
namespace Go.Proofs.YtgfafpiinencpaaGreat

/-! ### what is left behind by a call that nobody needs to know of -/

theorem Step.shrink {u u' : H} {bs bs' : List Nat} {w w' : World} (h : Step u bs w u' bs' w') (k : u.le u') : Step u bs w u bs' w' :=
  ⟨h.sub.mono k, h.os, h.tape, h.output, h.drawn, h.size, h.rest, fun _ _ e => e, h.more⟩

def kF (u : H) : (ts : List CT) → Cur ts (H → Prop) → Cur ts (H → Prop)
  | [], r => fun u' => u.le u' ∧ r u
  | _ :: ts, K => fun x => kF u ts (K x)

theorem unC_kF {u u' : H} : ∀ (ts : List CT) (K : Cur ts (H → Prop)) (vs : List Value), (unC ts (kF u ts K) vs fun r => r u') → Kinds ts vs → u.le u' ∧ unC ts K vs fun r => r u := by
  intro ts
  induction ts with
  | nil => intro K vs h k; cases k; exact h
  | cons t ts ih =>
    intro K vs h k
    cases k with
    | cons x kr =>
      simp only [unC, CT.un_enc] at h ⊢
      exact ih (K x) _ h kr

theorem ClT.forget {P : Program} {f : FuncId} {args : Array Value} {ss : List Sh} {u : H} {K : Cur (ctsOf ss) (H → Prop)} (h : ClT P f args ss u (kF u (ctsOf ss) K)) : ClT P f args ss u K := by
  intro w hw
  refine (h w hw).mono ?_
  rintro e w' ⟨v, u', he, ⟨vs, hk, hv, hc⟩, hs⟩
  obtain ⟨hle, hc'⟩ := unC_kF _ _ _ hc hk
  exact ⟨v, u, he, ⟨vs, hk, hv, hc'⟩, hs.shrink hle⟩

/-! ### numbers as digits -/

def dg (x : Int) (i : Nat) : Int := x / (65536 ^ i : Nat) % 65536

theorem dg_lt (x : Int) (i : Nat) : 0 ≤ dg x i ∧ dg x i < 65536 := by unfold dg; omega

theorem spec.theodoliteref01_Cmp {a0 a1 a2 a3 a4 a5 a6 a7 b0 b1 b2 b3 b4 b5 b6 b7 : Int} {o p : Bool} {u : H} {K : Int → H → Prop}
    (h : (a7 = b7 → a6 = b6 → a5 = b5 → a4 = b4 → a3 = b3 → a2 = b2 → a1 = b1 → a0 = b0 → K 0 u)
      ∧ ((a7 < b7 ∨ a7 = b7 ∧ (a6 < b6 ∨ a6 = b6 ∧ (a5 < b5 ∨ a5 = b5 ∧ (a4 < b4 ∨ a4 = b4 ∧ (a3 < b3 ∨ a3 = b3 ∧ (a2 < b2 ∨ a2 = b2 ∧ (a1 < b1 ∨ a1 = b1 ∧ a0 < b0))))))) → K (-1) u)
      ∧ ((b7 < a7 ∨ a7 = b7 ∧ (b6 < a6 ∨ a6 = b6 ∧ (b5 < a5 ∨ a5 = b5 ∧ (b4 < a4 ∨ a4 = b4 ∧ (b3 < a3 ∨ a3 = b3 ∧ (b2 < a2 ∨ a2 = b2 ∧ (b1 < a1 ∨ a1 = b1 ∧ b0 < a0))))))) → K 1 u)) :
    C.theodoliteref01_Cmp a0 a1 a2 a3 a4 a5 a6 a7 o b0 b1 b2 b3 b4 b5 b6 b7 p u K := by
  refine ClT.forget (ss := [.one (.int .i64)]) ?_
  apply vc.theodoliteref01_Cmp
  intro n hn m hm
  have hnm : m ≠ n := fun e => by rw [e, H.ins_same] at hm; cases hm
  generalize hu' : ((u.ins n _).ins m _) = u'
  have hle : u.le u' := by subst hu'; exact (H.le_ins _ hn).trans (H.le_ins _ hm)
  have ca : ∀ j v, (#[Value.int .i64 a0, .int .i64 a1, .int .i64 a2, .int .i64 a3, .int .i64 a4, .int .i64 a5, .int .i64 a6, .int .i64 a7, .bool o] : Array Value)[j]? = some v → u'.cell? ⟨n, j, none⟩ = some v := by
    intro j v hv
    subst hu'
    exact (H.cell?_of (by rw [H.ins_other _ _ (Ne.symm hnm)]; exact H.ins_same _ _ _) j).trans hv
  have cb : ∀ j v, (#[Value.int .i64 b0, .int .i64 b1, .int .i64 b2, .int .i64 b3, .int .i64 b4, .int .i64 b5, .int .i64 b6, .int .i64 b7, .bool p] : Array Value)[j]? = some v → u'.cell? ⟨m, j, none⟩ = some v := by
    intro j v hv
    subst hu'
    exact (H.cell?_of (H.ins_same _ _ _) j).trans hv
  clear hu' hm hn
  obtain ⟨h0, h1, h2⟩ := h
  refine ⟨fun _ i v => v = u' ∧ -1 ≤ i ∧ i ≤ 7 ∧ (i < 7 → a7 = b7) ∧ (i < 6 → a6 = b6) ∧ (i < 5 → a5 = b5) ∧ (i < 4 → a4 = b4) ∧ (i < 3 → a3 = b3) ∧ (i < 2 → a2 = b2) ∧ (i < 1 → a1 = b1) ∧ (i < 0 → a0 = b0),
    fun _ i _ => (i + 1).toNat, ⟨rfl, by omega, by omega, by omega, by omega, by omega, by omega, by omega, by omega, by omega, by omega⟩, ?_⟩
  rintro _ i v ⟨rfl, l0, l1, e7, e6, e5, e4, e3, e2, e1, e0⟩
  refine ⟨fun hi => ?_, fun hi => ⟨hle, h0 (e7 (by omega)) (e6 (by omega)) (e5 (by omega)) (e4 (by omega)) (e3 (by omega)) (e2 (by omega)) (e1 (by omega)) (e0 (by omega))⟩⟩
  obtain ⟨x, y, cx, cy, k1, k2, k3⟩ : ∃ x y : Int, v.cell? ((Addr.mk n 0 none).add (i.toNat * 1)) = some (.int .i64 x) ∧ v.cell? ((Addr.mk m 0 none).add (i.toNat * 1)) = some (.int .i64 y) ∧
      (x < y → K (-1) u) ∧ (y < x → K 1 u) ∧ (x = y → -1 ≤ (i-1) ∧ (i-1) ≤ 7 ∧ ((i-1) < 7 → a7 = b7) ∧ ((i-1) < 6 → a6 = b6) ∧ ((i-1) < 5 → a5 = b5) ∧ ((i-1) < 4 → a4 = b4) ∧ ((i-1) < 3 → a3 = b3) ∧ ((i-1) < 2 → a2 = b2) ∧ ((i-1) < 1 → a1 = b1) ∧ ((i-1) < 0 → a0 = b0)) := by
    have hc : i = 0 ∨ i = 1 ∨ i = 2 ∨ i = 3 ∨ i = 4 ∨ i = 5 ∨ i = 6 ∨ i = 7 := by omega
    rcases hc with rfl | rfl | rfl | rfl | rfl | rfl | rfl | rfl
    · exact ⟨_, _, ca 0 _ rfl, cb 0 _ rfl, fun hl => h1 (by omega), fun hl => h2 (by omega), fun he => by omega⟩
    · exact ⟨_, _, ca 1 _ rfl, cb 1 _ rfl, fun hl => h1 (by omega), fun hl => h2 (by omega), fun he => by omega⟩
    · exact ⟨_, _, ca 2 _ rfl, cb 2 _ rfl, fun hl => h1 (by omega), fun hl => h2 (by omega), fun he => by omega⟩
    · exact ⟨_, _, ca 3 _ rfl, cb 3 _ rfl, fun hl => h1 (by omega), fun hl => h2 (by omega), fun he => by omega⟩
    · exact ⟨_, _, ca 4 _ rfl, cb 4 _ rfl, fun hl => h1 (by omega), fun hl => h2 (by omega), fun he => by omega⟩
    · exact ⟨_, _, ca 5 _ rfl, cb 5 _ rfl, fun hl => h1 (by omega), fun hl => h2 (by omega), fun he => by omega⟩
    · exact ⟨_, _, ca 6 _ rfl, cb 6 _ rfl, fun hl => h1 (by omega), fun hl => h2 (by omega), fun he => by omega⟩
    · exact ⟨_, _, ca 7 _ rfl, cb 7 _ rfl, fun hl => h1 (by omega), fun hl => h2 (by omega), fun he => by omega⟩
  refine ⟨by decide, ⟨hi, by omega⟩, by decide, ⟨hi, by omega⟩, x, cx, y, cy, fun hne => ⟨by decide, ⟨hi, by omega⟩, by decide, ⟨hi, by omega⟩, x, cx, y, cy, fun hl => ⟨hle, k1 hl⟩, fun hl => ⟨hle, k2 (by omega)⟩⟩,
    fun he => ⟨⟨by omega, by omega⟩, ⟨rfl, k3 he⟩, by dsimp only; omega⟩⟩

def numC (d : List Int) : Array Value := (d.map (fun x => Value.int .i64 x) ++ [Value.bool false]).toArray

theorem H.ins_ins (u : H) (n : Nat) (a b : Obj) : (u.ins n a).ins n b = u.ins n b := by
  funext x; unfold H.ins; split <;> rfl

theorem st_num {u : H} {n : Nat} {d : List Int} {T : TypeId} (hd : d.length = 8) {i : Nat} (hi : i < 8) {x : Int} {f : H → Prop} (hf : f (u.ins n (.cells (numC (d.set i x)) T (0, 0)))) :
    H.St (u.ins n (.cells (numC d) T (0, 0))) ((Addr.mk n 0 none).add (i * 1)) [.int .i64 x] f := by
  rw [Nat.mul_one, Addr.add_lit, Nat.zero_add]
  refine ⟨numC d, T, H.ins_same _ _ _, rfl, by simp [numC, hd]; omega, by simp [Value.oneCell'], ?_⟩
  rw [H.ins_ins]
  have : wr (numC d) i [.int .i64 x] = numC (d.set i x) := by
    show (numC d).setIfInBounds i (.int .i64 x) = _
    unfold numC
    simp only [List.setIfInBounds_toArray]
    rw [List.set_append_left _ _ (by simp [hd, hi]), List.map_set]
  show f (u.ins n (.cells (wr (numC d) i [.int .i64 x]) T (0, 0)))
  rw [this]; exact hf

theorem spec.theodoliteref01_Of {a b : Int} {u : H} {K : Int → Int → Int → Int → Int → Int → Int → Int → Bool → H → Prop} (ha : U64 a) (hb : U64 b)
    (h : K (dg b 0) (dg b 1) (dg b 2) (dg b 3) (dg a 0) (dg a 1) (dg a 2) (dg a 3) false u) : C.theodoliteref01_Of a b u K := by
  refine ClT.forget (ss := [.agg [.int .i64, .int .i64, .int .i64, .int .i64, .int .i64, .int .i64, .int .i64, .int .i64, .bool]]) ?_
  apply vc.theodoliteref01_Of
  intro n hn
  refine ⟨fun i x y v => 0 ≤ i ∧ i ≤ 4 ∧ x = a / (65536 ^ i.toNat : Nat) ∧ y = b / (65536 ^ i.toNat : Nat) ∧ ∃ d : List Int, d.length = 8 ∧ v = u.ins n (.cells (numC d) 132 (0, 0)) ∧ ∀ j, j < i.toNat → d[j]? = some (dg b j) ∧ d[4 + j]? = some (dg a j),
    fun i _ _ _ => (4 - i).toNat, ⟨by omega, by omega, by simp, by simp, [0, 0, 0, 0, 0, 0, 0, 0], rfl, rfl, fun j hj => by simp at hj⟩, ?_⟩
  rintro i x y v ⟨l0, l1, rfl, rfl, d, hd, rfl, hc⟩
  obtain ⟨ha0, ha1⟩ := ha
  obtain ⟨hb0, hb1⟩ := hb
  refine ⟨fun hi => ?_, fun hi => ?_⟩
  · have hp : (0 : Int) < (65536 ^ i.toNat : Nat) := Int.natCast_pos.2 (Nat.pow_pos (by decide))
    have hx0 : 0 ≤ a / (65536 ^ i.toNat : Nat) := Int.ediv_nonneg ha0 (by omega)
    have hy0 : 0 ≤ b / (65536 ^ i.toNat : Nat) := Int.ediv_nonneg hb0 (by omega)
    have hx1 : a / (65536 ^ i.toNat : Nat) ≤ a := Int.ediv_le_self _ ha0
    have hy1 : b / (65536 ^ i.toNat : Nat) ≤ b := Int.ediv_le_self _ hb0
    have hdx : a / (65536 ^ i.toNat : Nat) / 65536 = a / (65536 ^ (i + 1).toNat : Nat) := by
      rw [Int.ediv_ediv_of_nonneg (by omega), show (i + 1).toNat = i.toNat + 1 by omega, Nat.pow_succ]; rfl
    have hdy : b / (65536 ^ i.toNat : Nat) / 65536 = b / (65536 ^ (i + 1).toNat : Nat) := by
      rw [Int.ediv_ediv_of_nonneg (by omega), show (i + 1).toNat = i.toNat + 1 by omega, Nat.pow_succ]; rfl
    have ex : dg a i.toNat = a / (65536 ^ i.toNat : Nat) % 65536 := rfl
    have ey : dg b i.toNat = b / (65536 ^ i.toNat : Nat) % 65536 := rfl
    generalize a / (65536 ^ i.toNat : Nat) = x at *
    generalize b / (65536 ^ i.toNat : Nat) = y at *
    have t1 : Int.tmod y 65536 = y % 65536 := Int.tmod_eq_emod_of_nonneg hy0
    have t2 : Int.tmod x 65536 = x % 65536 := Int.tmod_eq_emod_of_nonneg hx0
    have t3 : Int.tdiv y 65536 = y / 65536 := Int.tdiv_eq_ediv_of_nonneg hy0
    have t4 : Int.tdiv x 65536 = x / 65536 := Int.tdiv_eq_ediv_of_nonneg hx0
    rw [t1, t2, t3, t4, IntWalk.i64_in (y % 65536) (by omega), IntWalk.i64_in (x % 65536) (by omega), IntWalk.u64_in (y / 65536) (by omega), IntWalk.u64_in (x / 65536) (by omega)]
    refine ⟨by decide, by decide, ⟨l0, by omega⟩, st_num hd (by omega) ⟨by decide, ⟨by omega, by omega⟩, by decide, by decide, ⟨by omega, by omega⟩, st_num (by simp [hd]) (by omega)
      ⟨by decide, ⟨by omega, by omega⟩, ⟨by omega, by omega, hdx, hdy, _, ?_, rfl, ?_⟩, by dsimp only; omega⟩⟩⟩
    · simp [hd]
    · intro j hj
      have e4 : (4 + i).toNat = 4 + i.toNat := by omega
      rw [e4]
      simp only [List.getElem?_set]
      by_cases hji : j = i.toNat
      · subst hji
        rw [if_neg (by omega), if_pos rfl, if_pos (by omega), if_pos rfl, if_pos (by simp [hd]; omega), ey, ex]
        exact ⟨rfl, rfl⟩
      · rw [if_neg (by omega), if_neg (by omega), if_neg (by omega), if_neg (by omega)]
        exact hc j (by omega)
  · have h4 : i.toNat = 4 := by omega
    rw [h4] at hc
    have g : ∀ j z, d[j]? = some z → j < 8 → ((u.ins n (.cells (numC d) 132 (0, 0))).cell? ⟨n, j, none⟩ = some (.int .i64 z)) := by
      intro j z hz hj
      rw [H.cell?_ins]
      simp [numC, List.getElem?_append, hd, hj]
      exact (List.getElem?_eq_some_iff.1 hz).2
    have c0 := hc 0 (by omega)
    have c1 := hc 1 (by omega)
    have c2 := hc 2 (by omega)
    have c3 := hc 3 (by omega)
    refine ⟨_, g 0 _ c0.1 (by omega), _, g 1 _ c1.1 (by omega), _, g 2 _ c2.1 (by omega), _, g 3 _ c3.1 (by omega), _, g 4 _ c0.2 (by omega), _, g 5 _ c1.2 (by omega), _, g 6 _ c2.2 (by omega), _, g 7 _ c3.2 (by omega), false, ?_, H.le_ins _ hn, h⟩
    show (u.ins n _).cell? ⟨n, 8, none⟩ = _
    rw [H.cell?_ins]
    simp [numC, hd]

theorem spec.theodoliteref01_Less {a b c d : Int} {u : H} {K : Bool → H → Prop} (ha : U64 a) (hb : U64 b) (hc : U64 c) (hd : U64 d) (h : K (decide (wv a b < wv c d)) u) : C.theodoliteref01_Less a b c d u K := by
  apply vc.theodoliteref01_Less
  refine spec.theodoliteref01_Of ha hb ⟨H.le.refl _, spec.theodoliteref01_Of hc hd (spec.theodoliteref01_Cmp ?_)⟩
  have key : ∀ z : Int, (z < 0 ↔ wv a b < wv c d) → K (decide (z < 0)) u := fun z hz => by
    have : decide (z < 0) = decide (wv a b < wv c d) := by simp [hz]
    rw [this]; exact h
  simp only [U64, wv, dg, Nat.reducePow] at *
  refine ⟨fun _ _ _ _ _ _ _ _ => key 0 (by omega), fun _ => key (-1) (by omega), fun _ => key 1 (by omega)⟩

end Go.Proofs.YtgfafpiinencpaaGreat
