/- Hits in their order: the plain side. -/
namespace Go.Proofs.YtgfafpiinencpaaGreat

/-- A hit: an id, and a distance. -/
abbrev Hit := Int × Int

def hlt (a b : Hit) : Bool := decide (a.2 < b.2) || (decide (a.2 = b.2) && decide (a.1 < b.1))

theorem hlt_iff {a b : Hit} : hlt a b = true ↔ a.2 < b.2 ∨ (a.2 = b.2 ∧ a.1 < b.1) := by simp [hlt]
theorem hlt_not {a b : Hit} : hlt a b = false ↔ b.2 < a.2 ∨ (b.2 = a.2 ∧ b.1 ≤ a.1) := by
  rw [← Bool.not_eq_true, hlt_iff]; omega

theorem hlt_irrefl (a : Hit) : hlt a a = false := hlt_not.2 (.inr ⟨rfl, Int.le_refl _⟩)
theorem hlt_asymm {a b : Hit} (h : hlt a b = true) : hlt b a = false := by rw [hlt_iff] at h; rw [hlt_not]; omega
theorem hlt_le_trans {a b c : Hit} (h : hlt b a = false) (k : hlt c b = false) : hlt c a = false := by rw [hlt_not] at *; omega
theorem hlt_lt_trans {a b c : Hit} (h : hlt a b = true) (k : hlt b c = true) : hlt a c = true := by rw [hlt_iff] at *; omega
theorem hlt_lt_le {a b c : Hit} (h : hlt a b = true) (k : hlt c b = false) : hlt a c = true := by rw [hlt_iff] at *; rw [hlt_not] at k; omega
theorem hlt_le_lt {a b c : Hit} (h : hlt b a = false) (k : hlt b c = true) : hlt a c = true := by rw [hlt_iff] at *; rw [hlt_not] at h; omega
theorem hlt_eq {a b : Hit} (h : hlt b a = false) (k : hlt a b = false) : a = b := by
  rw [hlt_not] at *
  obtain ⟨a1, a2⟩ := a
  obtain ⟨b1, b2⟩ := b
  simp only [Prod.mk.injEq] at *
  omega

/-- In their order. -/
def Srt (l : List Hit) : Prop := l.Pairwise fun a b => hlt b a = false

theorem Srt.eq {a b : List Hit} (ha : Srt a) (hb : Srt b) (h : a.Perm b) : a = b :=
  h.eq_of_pairwise (le := fun x y => hlt y x = false) (fun _ _ _ _ h k => hlt_eq h k) ha hb

def insH (h : Hit) : List Hit → List Hit
  | [] => [h]
  | x :: l => if hlt h x then h :: x :: l else x :: insH h l

def sortH : List Hit → List Hit
  | [] => []
  | h :: l => insH h (sortH l)

theorem insH_perm (h : Hit) (l : List Hit) : (insH h l).Perm (h :: l) := by
  induction l with
  | nil => exact .refl _
  | cons x l ih =>
    simp only [insH]
    split
    · exact .refl _
    · exact ((List.Perm.cons x ih).trans (List.Perm.swap h x l))

theorem insH_srt {h : Hit} {l : List Hit} (hl : Srt l) : Srt (insH h l) := by
  induction l with
  | nil => exact List.pairwise_singleton _ _
  | cons x l ih =>
    have h1 := List.pairwise_cons.1 hl
    simp only [insH]
    split
    · rename_i hx
      refine List.pairwise_cons.2 ⟨fun y hy => ?_, hl⟩
      rcases List.mem_cons.1 hy with rfl | hy
      · exact hlt_asymm hx
      · exact hlt_le_trans (hlt_asymm hx) (h1.1 y hy)
    · rename_i hx
      refine List.pairwise_cons.2 ⟨fun y hy => ?_, ih h1.2⟩
      rcases List.mem_cons.1 ((insH_perm h l).mem_iff.1 hy) with rfl | hy
      · simpa using hx
      · exact h1.1 y hy

theorem sortH_perm (l : List Hit) : (sortH l).Perm l := by
  induction l with
  | nil => exact .refl _
  | cons x l ih => exact (insH_perm x _).trans (List.Perm.cons x ih)

theorem sortH_srt (l : List Hit) : Srt (sortH l) := by
  induction l with
  | nil => exact List.Pairwise.nil
  | cons x l ih => exact insH_srt ih

theorem sortH_eq {a b : List Hit} (h : a.Perm b) : sortH a = sortH b :=
  (sortH_srt a).eq (sortH_srt b) ((sortH_perm a).trans (h.trans (sortH_perm b).symm))

theorem sortH_of {a b : List Hit} (h : a.Perm b) (hs : Srt a) : a = sortH b := hs.eq (sortH_srt b) (h.trans (sortH_perm b).symm)

theorem sortH_len (l : List Hit) : (sortH l).length = l.length := (sortH_perm l).length_eq

/-- The first so many. -/
def topk (k : Nat) (l : List Hit) : List Hit := (sortH l).take k

theorem topk_srt (k : Nat) (l : List Hit) : Srt (topk k l) := List.Pairwise.sublist (List.take_sublist _ _) (sortH_srt l)
theorem topk_len (k : Nat) (l : List Hit) : (topk k l).length = min k l.length := by simp [topk, sortH_len]
theorem topk_eq {k : Nat} {a b : List Hit} (h : a.Perm b) : topk k a = topk k b := by simp only [topk, sortH_eq h]

theorem Srt.append {a b : List Hit} (h : Srt (a ++ b)) : Srt a ∧ Srt b ∧ ∀ x ∈ a, ∀ y ∈ b, hlt y x = false := List.pairwise_append.1 h

theorem insH_take (h : Hit) : ∀ (k : Nat) (l : List Hit), (insH h l).take k = (insH h (l.take k)).take k := by
  intro k l
  induction l generalizing k with
  | nil => simp
  | cons x l ih =>
    cases k with
    | zero => simp
    | succ k =>
      simp only [insH, List.take_succ_cons]
      split
      · simp only [List.take_succ_cons]
        cases k with
        | zero => simp
        | succ k => simp only [List.take_succ_cons, List.take_take]; congr 3; omega
      · simp only [List.take_succ_cons, ih k]

theorem insH_of_srt {h : Hit} {l : List Hit} (hl : Srt l) : insH h l = sortH (h :: l) :=
  sortH_of (insH_perm h l) (insH_srt hl)

theorem topk_cons (k : Nat) (x : Hit) (l : List Hit) : topk k (x :: l) = topk k (x :: topk k l) := by
  have h : sortH (topk k l) = topk k l := (sortH_of (.refl _) (topk_srt k l)).symm
  show (insH x (sortH l)).take k = (insH x (sortH (topk k l))).take k
  rw [h, insH_take]
  rfl

theorem topk_append (k : Nat) (a b : List Hit) : topk k (a ++ b) = topk k (a ++ topk k b) := by
  induction a with
  | nil =>
    have h : sortH (topk k b) = topk k b := (sortH_of (.refl _) (topk_srt k b)).symm
    show topk k b = (sortH (topk k b)).take k
    rw [h]; simp [topk, List.take_take]
  | cons x a ih => rw [List.cons_append, topk_cons, ih, ← topk_cons]; rfl

theorem topk_both (k : Nat) (a b : List Hit) : topk k (a ++ b) = topk k (topk k a ++ topk k b) := by
  rw [topk_append, topk_eq List.perm_append_comm, topk_append, topk_eq List.perm_append_comm]

/-- A heap's list that holds the first k: one more is offered, and there is room. -/
theorem topk_room {k : Nat} {l : List Hit} {x : Hit} (h : l.length < k) : (topk k (x :: l)).Perm (x :: l) ∧ (topk k l).Perm l := by
  have e : ∀ m : List Hit, m.length ≤ k → topk k m = sortH m := fun m hm => List.take_of_length_le (by rw [sortH_len]; exact hm)
  rw [e _ (by simp; omega), e _ (by omega)]
  exact ⟨sortH_perm _, sortH_perm _⟩

/-- No room, and not below the worst. -/
theorem topk_worse {k : Nat} {l : List Hit} {x : Hit} (hk : k ≤ l.length) (h : ∀ y ∈ topk k l, hlt x y = false) : topk k (x :: l) = topk k l := by
  show (insH x (sortH l)).take k = (sortH l).take k
  have key : ∀ (k : Nat) (s : List Hit), k ≤ s.length → (∀ y ∈ s.take k, hlt x y = false) → (insH x s).take k = s.take k := by
    intro k s
    induction s generalizing k with
    | nil => intro hk _; have : k = 0 := by simpa using hk
             subst this; simp
    | cons y s ih =>
      intro hk h
      cases k with
      | zero => simp
      | succ k =>
        have h0 := h y (by simp)
        simp only [insH, h0, Bool.false_eq_true, if_false, List.take_succ_cons]
        rw [ih k (by simpa using hk) (fun z hz => h z (by simp [hz]))]
  exact key k _ (by rw [sortH_len]; exact hk) h

/-- No room, and below the worst, which goes. -/
theorem topk_better {k : Nat} {l t : List Hit} {x m : Hit} (hp : (m :: t).Perm (topk k l)) (hm : ∀ y ∈ m :: t, hlt m y = false) (hx : hlt x m = true) (hk : (topk k l).length = k) :
    (x :: t).Perm (topk k (x :: l)) := by
  rw [topk_cons]
  have h1 : topk k (x :: topk k l) = topk k (m :: x :: t) := topk_eq ((List.Perm.cons x hp.symm).trans (List.Perm.swap _ _ _))
  have hl : t.length + 1 = k := by rw [← hk, ← hp.length_eq]; simp
  have h2 : topk k (m :: x :: t) = topk k (x :: t) := by
    refine topk_worse (by simp [hl]) fun y hy => ?_
    have : y ∈ x :: t := (sortH_perm _).mem_iff.1 (List.mem_of_mem_take hy)
    rcases List.mem_cons.1 this with rfl | h
    · exact hlt_asymm hx
    · exact hm y (by simp [h])
  rw [h1, h2]
  have e : topk k (x :: t) = sortH (x :: t) := List.take_of_length_le (by rw [sortH_len]; simp [hl])
  rw [e]
  exact (sortH_perm _).symm

end Go.Proofs.YtgfafpiinencpaaGreat
