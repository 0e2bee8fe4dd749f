/- Numbers in their order; a box of rows: plain laws. -/
import Derived.Test.YtgfafpiinencpaaGreatVcLend
namespace Go.Proofs.YtgfafpiinencpaaGreat

/-- Rising, and rising strictly. -/
def Up (l : List Int) : Prop := l.Pairwise (· ≤ ·)
def Rise (l : List Int) : Prop := l.Pairwise (· < ·)

theorem Rise.up {l : List Int} (h : Rise l) : Up l := h.imp fun h => Int.le_of_lt h

theorem sortI_perm (l : List Int) : (sortI l).Perm l := List.mergeSort_perm l _

theorem sortI_up (l : List Int) : Up (sortI l) := by
  have := List.pairwise_mergeSort (le := fun x y : Int => decide (x ≤ y)) (fun a b c h1 h2 => by simp at *; omega) (fun a b => by simp; omega) l
  exact this.imp fun h => by simpa using h

theorem sortI_len (l : List Int) : (sortI l).length = l.length := (sortI_perm l).length_eq

theorem Up.eq {a b : List Int} (ha : Up a) (hb : Up b) (h : a.Perm b) : a = b := by
  induction a generalizing b with
  | nil => exact (List.Perm.nil_eq h)
  | cons x a ih =>
    cases b with
    | nil => exact absurd h.length_eq (by simp)
    | cons y b =>
      have hxa := List.pairwise_cons.1 ha
      have hyb := List.pairwise_cons.1 hb
      have hxy : x = y := by
        have h1 : x ∈ y :: b := h.mem_iff.1 (List.mem_cons_self ..)
        have h2 : y ∈ x :: a := h.mem_iff.2 (List.mem_cons_self ..)
        rcases List.mem_cons.1 h1 with e | h1
        · exact e
        · rcases List.mem_cons.1 h2 with e | h2
          · exact e.symm
          · have := hyb.1 x h1
            have := hxa.1 y h2
            omega
      subst hxy
      rw [ih hxa.2 hyb.2 (List.Perm.cons_inv h)]

theorem sortI_of {a b : List Int} (h : a.Perm b) (ha : Up a) : a = sortI b := ha.eq (sortI_up b) (h.trans (sortI_perm b).symm)
theorem sortI_eq {a b : List Int} (h : a.Perm b) : sortI a = sortI b := sortI_of ((sortI_perm a).trans h) (sortI_up a)
theorem sortI_self {a : List Int} (h : Up a) : sortI a = a := (sortI_of (.refl a) h).symm

theorem sortI_rise {l : List Int} (h : l.Nodup) : Rise (sortI l) := by
  have h1 := sortI_up l
  have h2 : (sortI l).Nodup := (sortI_perm l).nodup_iff.2 h
  exact (h1.and h2).imp fun ⟨a, b⟩ => by omega

/-- One more, in its place. -/
theorem sortI_with {L : List Int} {x : Int} {k : Nat} (hk : k ≤ (sortI L).length) (h1 : ∀ y ∈ (sortI L).take k, y < x) (h2 : ∀ y, (sortI L)[k]? = some y → x ≤ y) : (sortI L).take k ++ x :: (sortI L).drop k = sortI (x :: L) := by
  have hs := sortI_up L
  refine sortI_of ?_ ?_
  · refine (List.perm_middle).trans (List.Perm.cons x ?_)
    rw [List.take_append_drop]
    exact sortI_perm L
  · have hs' := hs
    rw [← List.take_append_drop k (sortI L)] at hs'
    have ⟨ha, hb, hab⟩ := List.pairwise_append.1 hs'
    have hxd : ∀ y ∈ (sortI L).drop k, x ≤ y := by
      intro y hy
      cases hd : (sortI L).drop k with
      | nil => rw [hd] at hy; cases hy
      | cons z r =>
        have hz : (sortI L)[k]? = some z := by
          have : ((sortI L).drop k)[0]? = some z := by rw [hd]; rfl
          rw [List.getElem?_drop] at this
          exact this
        have := h2 z hz
        rw [hd] at hy hb
        rcases List.mem_cons.1 hy with rfl | hy
        · exact this
        · have := (List.pairwise_cons.1 hb).1 y hy
          omega
    refine List.pairwise_append.2 ⟨ha, List.pairwise_cons.2 ⟨hxd, hb⟩, fun a haa b hbb => ?_⟩
    rcases List.mem_cons.1 hbb with rfl | hbb
    · have := h1 a haa; omega
    · exact hab a haa b hbb

/-! ### rows by their ids -/

/-- Of two lists out of rows whose ids come once, those with the same ids are the same rows. -/
theorem rows_perm {l a b : List Rw} (hl : (l.map (·.id)).Nodup) (ha : ∀ r ∈ a, r ∈ l) (hb : ∀ r ∈ b, r ∈ l) (h : (a.map (·.id)).Perm (b.map (·.id))) : a.Perm b := by
  have inj : ∀ {l : List Rw}, (l.map (·.id)).Nodup → ∀ r ∈ l, ∀ r' ∈ l, r.id = r'.id → r = r' := by
    intro l
    induction l with
    | nil => intro _ r hr; cases hr
    | cons x l ih =>
      intro hn r hr r' hr' e
      have h2 := List.nodup_cons.1 hn
      rcases List.mem_cons.1 hr with h1 | h1
      · rcases List.mem_cons.1 hr' with h3 | h3
        · rw [h1, h3]
        · exact (h2.1 (List.mem_map.2 ⟨r', h3, by rw [← e, h1]⟩)).elim
      · rcases List.mem_cons.1 hr' with h3 | h3
        · exact (h2.1 (List.mem_map.2 ⟨r, h1, by rw [e, h3]⟩)).elim
        · exact ih h2.2 r h1 r' h3 e
  let f : Int → Rw := fun x => (l.find? fun r => r.id == x).getD ⟨0, ⟨none, 0, 0⟩, []⟩
  have hf : ∀ r ∈ l, f r.id = r := by
    intro r hr
    show (l.find? fun r' => r'.id == r.id).getD _ = r
    cases hfind : l.find? fun r' => r'.id == r.id with
    | none => exact absurd (List.find?_eq_none.1 hfind r hr) (by simp)
    | some r' =>
      have h1 := List.find?_some hfind
      have h2 := List.mem_of_find?_eq_some hfind
      exact inj hl r' h2 r hr (by simpa using h1)
  have hm : ∀ {c : List Rw}, (∀ r ∈ c, r ∈ l) → (c.map (·.id)).map f = c := by
    intro c hc
    rw [List.map_map]
    conv => rhs; rw [← List.map_id c]
    exact List.map_congr_left fun r hr => hf r (hc r hr)
  have := h.map f
  rw [hm ha, hm hb] at this
  exact this

/-! ### boxes -/

theorem fold_box {f : Int → Int → Int} (hf : ∀ a x, (f a x ≤ a ∧ f a x ≤ x ∧ (f a x = a ∨ f a x = x))) : ∀ (l : List Rw) (a : List Int) (n : Nat), a.length = n → (∀ r ∈ l, r.v.length = n) →
    (l.foldl (fun acc r => List.zipWith f acc r.v) a).length = n ∧ (∀ i, i < n → (l.foldl (fun acc r => List.zipWith f acc r.v) a).getD i 0 ≤ a.getD i 0 ∧ (∀ r ∈ l, (l.foldl (fun acc r => List.zipWith f acc r.v) a).getD i 0 ≤ r.v.getD i 0) ∧
      ((l.foldl (fun acc r => List.zipWith f acc r.v) a).getD i 0 = a.getD i 0 ∨ ∃ r ∈ l, (l.foldl (fun acc r => List.zipWith f acc r.v) a).getD i 0 = r.v.getD i 0)) := by
  intro l
  induction l with
  | nil => intro a n ha _; exact ⟨ha, fun i _ => ⟨Int.le_refl _, fun r hr => (by cases hr), .inl rfl⟩⟩
  | cons r l ih =>
    intro a n ha hl
    have hr := hl r (by simp)
    have hz : (List.zipWith f a r.v).length = n := by rw [List.length_zipWith, ha, hr, Nat.min_self]
    obtain ⟨h1, h2⟩ := ih (List.zipWith f a r.v) n hz fun x hx => hl x (by simp [hx])
    rw [List.foldl_cons]
    refine ⟨h1, fun i hi => ?_⟩
    have hzi : (List.zipWith f a r.v).getD i 0 = f (a.getD i 0) (r.v.getD i 0) := by
      have h3 : i < a.length := by omega
      have h4 : i < r.v.length := by omega
      simp [List.getD_eq_getElem?_getD, List.getElem?_zipWith, List.getElem?_eq_getElem h3, List.getElem?_eq_getElem h4]
    obtain ⟨g1, g2, g3⟩ := h2 i hi
    obtain ⟨f1, f2, f3⟩ := hf (a.getD i 0) (r.v.getD i 0)
    rw [hzi] at g1 g3
    refine ⟨by omega, fun x hx => ?_, ?_⟩
    · rcases List.mem_cons.1 hx with rfl | hx
      · omega
      · exact g2 x hx
    · rcases g3 with g3 | ⟨x, hx, g3⟩
      · rcases f3 with f3 | f3
        · exact .inl (by rw [g3, f3])
        · exact .inr ⟨r, by simp, by rw [g3, f3]⟩
      · exact .inr ⟨x, by simp [hx], g3⟩

theorem fold_box' {f : Int → Int → Int} (hf : ∀ a x, (a ≤ f a x ∧ x ≤ f a x ∧ (f a x = a ∨ f a x = x))) : ∀ (l : List Rw) (a : List Int) (n : Nat), a.length = n → (∀ r ∈ l, r.v.length = n) →
    (l.foldl (fun acc r => List.zipWith f acc r.v) a).length = n ∧ (∀ i, i < n → a.getD i 0 ≤ (l.foldl (fun acc r => List.zipWith f acc r.v) a).getD i 0 ∧ (∀ r ∈ l, r.v.getD i 0 ≤ (l.foldl (fun acc r => List.zipWith f acc r.v) a).getD i 0) ∧
      ((l.foldl (fun acc r => List.zipWith f acc r.v) a).getD i 0 = a.getD i 0 ∨ ∃ r ∈ l, (l.foldl (fun acc r => List.zipWith f acc r.v) a).getD i 0 = r.v.getD i 0)) := by
  intro l
  induction l with
  | nil => intro a n ha _; exact ⟨ha, fun i _ => ⟨Int.le_refl _, fun r hr => (by cases hr), .inl rfl⟩⟩
  | cons r l ih =>
    intro a n ha hl
    have hr := hl r (by simp)
    have hz : (List.zipWith f a r.v).length = n := by rw [List.length_zipWith, ha, hr, Nat.min_self]
    obtain ⟨h1, h2⟩ := ih (List.zipWith f a r.v) n hz fun x hx => hl x (by simp [hx])
    rw [List.foldl_cons]
    refine ⟨h1, fun i hi => ?_⟩
    have hzi : (List.zipWith f a r.v).getD i 0 = f (a.getD i 0) (r.v.getD i 0) := by
      have h3 : i < a.length := by omega
      have h4 : i < r.v.length := by omega
      simp [List.getD_eq_getElem?_getD, List.getElem?_zipWith, List.getElem?_eq_getElem h3, List.getElem?_eq_getElem h4]
    obtain ⟨g1, g2, g3⟩ := h2 i hi
    obtain ⟨f1, f2, f3⟩ := hf (a.getD i 0) (r.v.getD i 0)
    rw [hzi] at g1 g3
    refine ⟨by omega, fun x hx => ?_, ?_⟩
    · rcases List.mem_cons.1 hx with rfl | hx
      · omega
      · exact g2 x hx
    · rcases g3 with g3 | ⟨x, hx, g3⟩
      · rcases f3 with f3 | f3
        · exact .inl (by rw [g3, f3])
        · exact .inr ⟨r, by simp, by rw [g3, f3]⟩
      · exact .inr ⟨x, by simp [hx], g3⟩

/-- What a box of rows is. -/
theorem box_ok {l : List Rw} {d : Int} (h : Rok l d) (hne : l ≠ []) : ((boxLo l).length : Int) = d ∧ ((boxHi l).length : Int) = d ∧ vok (boxLo l) ∧ vok (boxHi l) ∧ (∀ i : Nat, (i : Int) < d → (boxLo l).getD i 0 ≤ (boxHi l).getD i 0) ∧
    ∀ r ∈ l, ∀ i : Nat, (i : Int) < d → (boxLo l).getD i 0 ≤ r.v.getD i 0 ∧ r.v.getD i 0 ≤ (boxHi l).getD i 0 := by
  obtain ⟨x, l', rfl⟩ : ∃ x l', l = x :: l' := by
    cases l with
    | nil => exact absurd rfl hne
    | cons x l' => exact ⟨x, l', rfl⟩
  have hd := h.dim
  have hx := h.v x (by simp)
  have hall : ∀ r ∈ x :: l', r.v.length = d.toNat := fun r hr => by have := (h.v r hr).1; omega
  obtain ⟨a1, a2⟩ := fold_box (f := fun a x => if x < a then x else a) (fun a x => by split <;> omega) (x :: l') x.v d.toNat (hall x (by simp)) hall
  obtain ⟨b1, b2⟩ := fold_box' (f := fun a x => if x > a then x else a) (fun a x => by split <;> omega) (x :: l') x.v d.toNat (hall x (by simp)) hall
  have eLo : boxLo (x :: l') = (x :: l').foldl (fun acc r => List.zipWith (fun a x => if x < a then x else a) acc r.v) x.v := rfl
  have eHi : boxHi (x :: l') = (x :: l').foldl (fun acc r => List.zipWith (fun a x => if x > a then x else a) acc r.v) x.v := rfl
  rw [← eLo] at a1 a2
  rw [← eHi] at b1 b2
  have coord : ∀ r ∈ x :: l', ∀ i, i < d.toNat → coordOk (r.v.getD i 0) := fun r hr i hi => (h.v r hr).2.2 i (by rw [hall r hr]; exact hi)
  refine ⟨by omega, by omega, ⟨by omega, fun i hi => ?_⟩, ⟨by omega, fun i hi => ?_⟩, fun i hi => ?_, fun r hr i hi => ⟨(a2 i (by omega)).2.1 r hr, (b2 i (by omega)).2.1 r hr⟩⟩
  · rcases (a2 i (by omega)).2.2 with e | ⟨r, hr, e⟩
    · rw [e]; exact coord x (by simp) i (by omega)
    · rw [e]; exact coord r hr i (by omega)
  · rcases (b2 i (by omega)).2.2 with e | ⟨r, hr, e⟩
    · rw [e]; exact coord x (by simp) i (by omega)
    · rw [e]; exact coord r hr i (by omega)
  · have h1 := (a2 i (by omega)).1
    have h2 := (b2 i (by omega)).1
    omega

end Go.Proofs.YtgfafpiinencpaaGreat
