/- Heaps as lists: the plain side. -/
namespace Go.Proofs.YtgfafpiinencpaaGreat

/-- Two elements change places. -/
def swapL {α : Type} (l : List α) (i j : Nat) : List α :=
  match l[i]?, l[j]? with
  | some a, some b => (l.set i b).set j a
  | _, _ => l

theorem swapL_eq {α : Type} {l : List α} {i j : Nat} (hi : i < l.length) (hj : j < l.length) : swapL l i j = (l.set i l[j]).set j l[i] := by
  simp [swapL, hi, hj]

theorem swapL_len {α : Type} (l : List α) (i j : Nat) : (swapL l i j).length = l.length := by
  unfold swapL; split <;> simp

theorem swapL_perm {α : Type} {l : List α} {i j : Nat} (hi : i < l.length) (hj : j < l.length) : (swapL l i j).Perm l := by
  rw [swapL_eq hi hj]
  exact List.set_set_perm hi hj

theorem swapL_get {α : Type} {l : List α} {i j k : Nat} (hi : i < l.length) (hj : j < l.length) (hk : k < l.length) :
    (swapL l i j)[k]? = if k = j then some l[i] else if k = i then some l[j] else some l[k] := by
  rw [swapL_eq hi hj]
  simp only [List.getElem?_set, List.length_set]
  by_cases h1 : j = k
  · subst h1; simp [hj]
  · by_cases h2 : i = k
    · subst h2; simp [h1, hi, Ne.symm h1]
    · simp [h1, h2, Ne.symm h1, Ne.symm h2, hk]

/-- What a comparison must be. -/
structure LtOk {α : Type} (lt : α → α → Bool) : Prop where
  asymm : ∀ a b, lt a b = true → lt b a = false
  trans : ∀ a b c, lt b a = false → lt c b = false → lt c a = false

variable {α : Type} [Inhabited α] {lt : α → α → Bool}

abbrev pa (i : Nat) : Nat := (i - 1) / 2

/-- No child is before its parent. -/
def Hp (lt : α → α → Bool) (n : Nat) (l : List α) : Prop := ∀ i, 0 < i → i < n → lt (l.getD i default) (l.getD (pa i) default) = false

/-- But for one child and its parent. -/
structure UpI (lt : α → α → Bool) (l : List α) (j : Nat) : Prop where
  inn : j < l.length
  others : ∀ i, 0 < i → i < l.length → i ≠ j → lt (l.getD i default) (l.getD (pa i) default) = false
  over : ∀ i, 0 < i → i < l.length → pa i = j → 0 < j → lt (l.getD i default) (l.getD (pa j) default) = false

theorem swapL_getD {l : List α} {i j k : Nat} (hi : i < l.length) (hj : j < l.length) (hk : k < l.length) :
    (swapL l i j).getD k default = if k = j then l.getD i default else if k = i then l.getD j default else l.getD k default := by
  rw [List.getD_eq_getElem?_getD, swapL_get hi hj hk]
  (repeat' split) <;> simp [hi, hj, hk]

theorem UpI.done {l : List α} {j : Nat} (h : UpI lt l j) (hd : j = 0 ∨ lt (l.getD j default) (l.getD (pa j) default) = false) : Hp lt l.length l := by
  intro i h0 hi
  by_cases hij : i = j
  · subst hij
    rcases hd with h | h
    · omega
    · exact h
  · exact h.others i h0 hi hij

theorem UpI.step (hL : LtOk lt) {l : List α} {j : Nat} (h : UpI lt l j) (hj : 0 < j) (hl : lt (l.getD j default) (l.getD (pa j) default) = true) : UpI lt (swapL l (pa j) j) (pa j) := by
  have hjl := h.inn
  have hpl : pa j < j := by unfold pa; omega
  have hlen := swapL_len l (pa j) j
  have g : ∀ k, k < l.length → (swapL l (pa j) j).getD k default = if k = j then l.getD (pa j) default else if k = pa j then l.getD j default else l.getD k default :=
    fun k hk => swapL_getD (by omega) hjl hk
  refine ⟨by omega, ?_, ?_⟩
  · intro i h0 hi hne
    rw [hlen] at hi
    have hpi : pa i < i := by unfold pa; omega
    rw [g i hi, g (pa i) (by omega)]
    by_cases hij : i = j
    · subst hij
      rw [if_pos rfl, if_neg (by omega), if_pos rfl]
      exact hL.asymm _ _ hl
    · rw [if_neg hij, if_neg hne]
      by_cases hpij : pa i = j
      · rw [if_pos hpij]
        exact h.over i h0 hi hpij hj
      · rw [if_neg hpij]
        by_cases hpp : pa i = pa j
        · rw [if_pos hpp]
          have := h.others i h0 hi hij
          rw [hpp] at this
          exact hL.trans _ _ _ (hL.asymm _ _ hl) this
        · rw [if_neg hpp]
          exact h.others i h0 hi hij
  · intro i h0 hi hpi hpj
    rw [hlen] at hi
    have hppj : pa (pa j) < pa j := by unfold pa at *; omega
    have hii : pa i < i := by unfold pa; omega
    rw [g i hi, g (pa (pa j)) (by omega), if_neg (by omega : ¬ pa (pa j) = j), if_neg (by omega : ¬ pa (pa j) = pa j)]
    have hpp := h.others (pa j) hpj (by omega) (by omega)
    by_cases hij : i = j
    · rw [if_pos hij]; exact hpp
    · rw [if_neg hij, if_neg (by omega)]
      have := h.others i h0 hi hij
      rw [hpi] at this
      exact hL.trans _ _ _ hpp this

/-- But for one parent and its children, within the first n. -/
structure DownI (lt : α → α → Bool) (n : Nat) (l : List α) (j : Nat) : Prop where
  le : n ≤ l.length
  others : ∀ i, 0 < i → i < n → pa i ≠ j → lt (l.getD i default) (l.getD (pa i) default) = false
  over : ∀ i, 0 < i → i < n → pa i = j → 0 < j → lt (l.getD i default) (l.getD (pa j) default) = false

theorem DownI.done {n : Nat} {l : List α} {j : Nat} (h : DownI lt n l j) (hd : ∀ i, 0 < i → i < n → pa i = j → lt (l.getD i default) (l.getD j default) = false) : Hp lt n l := by
  intro i h0 hi
  by_cases hij : pa i = j
  · rw [hij]; exact hd i h0 hi hij
  · exact h.others i h0 hi hij

theorem DownI.step (hL : LtOk lt) {n : Nat} {l : List α} {j c : Nat} (h : DownI lt n l j) (hc0 : 0 < c) (hc : c < n) (hcj : pa c = j) (hl : lt (l.getD c default) (l.getD j default) = true)
    (hm : ∀ i, 0 < i → i < n → pa i = j → lt (l.getD i default) (l.getD c default) = false) : DownI lt n (swapL l j c) c := by
  have hn := h.le
  have hjc : j < c := by rw [← hcj]; unfold pa; omega
  have hlen := swapL_len l j c
  have g : ∀ k, k < l.length → (swapL l j c).getD k default = if k = c then l.getD j default else if k = j then l.getD c default else l.getD k default :=
    fun k hk => swapL_getD (by omega) (by omega) hk
  refine ⟨by omega, ?_, ?_⟩
  · intro i h0 hi hne
    have hpi : pa i < i := by unfold pa; omega
    rw [g i (by omega), g (pa i) (by omega), if_neg hne]
    by_cases hic : i = c
    · subst hic
      rw [if_pos rfl, if_pos hcj]
      exact hL.asymm _ _ hl
    · rw [if_neg hic]
      by_cases hij : i = j
      · subst hij
        rw [if_pos rfl, if_neg (by omega)]
        have := h.over c hc0 hc hcj h0
        exact this
      · rw [if_neg hij]
        by_cases hpj : pa i = j
        · rw [if_pos hpj]; exact hm i h0 hi hpj
        · rw [if_neg hpj]; exact h.others i h0 hi hpj
  · intro i h0 hi hpi _
    have hpi' : pa i < i := by unfold pa; omega
    rw [g i (by omega), g (pa c) (by omega), if_neg (by omega : ¬ i = c), if_neg (by omega : ¬ i = j), hcj, if_neg (by omega : ¬ j = c), if_pos rfl]
    have := h.others i h0 hi (by omega)
    rw [hpi] at this
    exact this

theorem Hp.root (hL : LtOk lt) {n : Nat} {l : List α} (h : Hp lt n l) : ∀ i, i < n → lt (l.getD i default) (l.getD 0 default) = false := by
  intro i
  induction i using Nat.strongRecOn with
  | _ i ih =>
    intro hi
    by_cases h0 : i = 0
    · subst h0
      cases e : lt (l.getD 0 default) (l.getD 0 default) with
      | false => rfl
      | true => have := hL.asymm _ _ e; rw [e] at this; cases this
    · have hp : pa i < i := by unfold pa; omega
      exact hL.trans _ _ _ (ih (pa i) hp (by omega)) (h i (by omega) hi)

end Go.Proofs.YtgfafpiinencpaaGreat
