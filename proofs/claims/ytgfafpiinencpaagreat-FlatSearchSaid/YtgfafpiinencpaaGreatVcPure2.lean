/- The first k, and those within a radius: the plain side of the statements. -/
import Derived.Test.YtgfafpiinencpaaGreatVcLawA
namespace Go.Proofs.YtgfafpiinencpaaGreat

theorem topk_prefix {k : Nat} (l : List Hit) : (topk (k + 1) l).take (topk k l).length = topk k l := by
  rw [topk_len]
  unfold topk
  rw [List.take_take]
  have h := sortH_len l
  rcases Nat.le_total k l.length with hk | hk
  · rw [Nat.min_eq_left hk, Nat.min_eq_left (by omega)]
  · rw [Nat.min_eq_right hk, List.take_of_length_le (by omega), List.take_of_length_le (by omega)]

/-- Ids that come once. -/
def Once (l : List Hit) : Prop := (l.map (·.1)).Nodup

theorem Once.perm {a b : List Hit} (h : Once a) (hp : a.Perm b) : Once b := (hp.map _).nodup h
theorem Once.topk {k : Nat} {l : List Hit} (h : Once l) : Once (topk k l) :=
  List.Nodup.sublist (List.Sublist.map _ (List.take_sublist _ _)) (h.perm (sortH_perm l).symm)

theorem Once.eq {l : List Hit} (h : Once l) {a b : Hit} (ha : a ∈ l) (hb : b ∈ l) (e : a.1 = b.1) : a = b := by
  induction l with
  | nil => cases ha
  | cons x l ih =>
    have h2 := List.nodup_cons.1 h
    rcases List.mem_cons.1 ha with hax | ha
    · rcases List.mem_cons.1 hb with hbx | hb
      · rw [hax, hbx]
      · exact absurd (List.mem_map.2 ⟨b, hb, by show b.1 = x.1; rw [← e, hax]⟩) h2.1
    · rcases List.mem_cons.1 hb with hbx | hb
      · exact absurd (List.mem_map.2 ⟨a, ha, by show a.1 = x.1; rw [e, hbx]⟩) h2.1
      · exact ih h2.2 ha hb

theorem topk_mem {k : Nat} {l : List Hit} {x : Hit} (h : x ∈ topk k l) : x ∈ l := (sortH_perm l).mem_iff.1 (List.mem_of_mem_take h)

/-- Who is not among the first k is before none of them. -/
theorem topk_none {k : Nat} {l : List Hit} {x y : Hit} (hx : x ∈ l) (hn : x ∉ topk k l) (hy : y ∈ topk k l) : hlt x y = false := by
  have hx2 := (sortH_perm l).mem_iff.2 hx
  have hs := sortH_srt l
  rw [← List.take_append_drop k (sortH l)] at hx2 hs
  rcases List.mem_append.1 hx2 with h | h
  · exact absurd h hn
  · exact (List.pairwise_append.1 hs).2.2 y hy x h

/-- In their order, one strictly before the other. -/
theorem srt_lt {l : List Hit} (hs : Srt l) (ho : Once l) {i j : Nat} (hi : i < l.length) (hj : j < l.length) (hij : i < j) : hlt l[i] l[j] = true := by
  have h1 := List.pairwise_iff_getElem.1 hs i j hi hj hij
  cases h : hlt l[i] l[j] with
  | true => rfl
  | false =>
    have e := hlt_eq h1 h
    have hn := List.pairwise_iff_getElem.1 ho i j (by simpa using hi) (by simpa using hj) hij
    simp only [List.getElem_map] at hn
    exact absurd (by rw [e]) hn

/-- How often an id comes. -/
def times (id : Int) (l : List Hit) : Nat := l.countP fun h => decide (h.1 = id)

theorem times_once {l : List Hit} (h : Once l) (id : Int) : times id l ≤ 1 := by
  unfold times
  induction l with
  | nil => simp
  | cons x l ih =>
    have h2 := List.nodup_cons.1 h
    rw [List.countP_cons]
    have := ih h2.2
    split
    · rename_i hx
      have hx : x.1 = id := by simpa using hx
      have h0 : l.countP (fun h => decide (h.1 = id)) = 0 := List.countP_eq_zero.2 fun a ha => by
        simp only [decide_eq_true_eq]
        intro e
        exact h2.1 (List.mem_map.2 ⟨a, ha, by show a.1 = x.1; rw [e, hx]⟩)
      omega
    · omega

theorem times_zero {l : List Hit} {id : Int} (h : times id l = 0) : ∀ x ∈ l, x.1 ≠ id := fun x hx e => by
  have := List.countP_eq_zero.1 h x hx
  simp only [decide_eq_true_eq] at this
  exact this e

theorem times_step {id : Int} {l : List Hit} {i : Nat} {x : Hit} (h : l[i]? = some x) : times id (l.take (i + 1)) = times id (l.take i) + if x.1 = id then 1 else 0 := by
  unfold times
  rw [List.take_add_one, h, List.countP_append]
  simp [List.countP_cons]

theorem filter_take {R : Int} : ∀ {l : List Hit}, Srt l → l.filter (fun h => decide (h.2 ≤ R)) = l.take (l.filter fun h => decide (h.2 ≤ R)).length := by
  intro l
  induction l with
  | nil => intro _; rfl
  | cons x l ih =>
    intro hs
    have h2 := List.pairwise_cons.1 hs
    by_cases hx : x.2 ≤ R
    · rw [List.filter_cons_of_pos (by simpa using hx), List.length_cons, List.take_succ_cons]
      congr 1
      exact ih h2.2
    · have h0 : l.filter (fun h => decide (h.2 ≤ R)) = [] := List.filter_eq_nil_iff.2 fun y hy => by
        have := h2.1 y hy
        rw [hlt_not] at this
        simp only [decide_eq_true_eq]
        omega
      rw [List.filter_cons_of_neg (by simpa using hx), h0]
      rfl

/-- All within the last one's distance begin with the first k. -/
theorem within_topk {k : Nat} {l : List Hit} {R : Int} (hR : ∀ x ∈ topk k l, x.2 ≤ R) : (topk k l).length ≤ (within R l).length ∧ (within R l).take (topk k l).length = topk k l := by
  rw [within_eq]
  have hs := sortH_srt l
  have h1 := filter_take (R := R) hs
  have hlen : (topk k l).length ≤ ((sortH l).filter fun h => decide (h.2 ≤ R)).length := by
    have e : (topk k l).filter (fun h => decide (h.2 ≤ R)) = topk k l := List.filter_eq_self.2 fun x hx => by simpa using hR x hx
    have hsub : (topk k l).Sublist (sortH l) := List.take_sublist _ _
    have := (hsub.filter fun h => decide (h.2 ≤ R)).length_le
    rw [e] at this
    exact this
  refine ⟨hlen, ?_⟩
  generalize hn : (topk k l).length = n at hlen ⊢
  rw [h1, List.take_take, Nat.min_eq_left hlen]
  have : n = min k (sortH l).length := by rw [← hn, topk_len, sortH_len]
  unfold topk
  rw [this]
  rcases Nat.le_total k (sortH l).length with h | h
  · rw [Nat.min_eq_left h]
  · rw [Nat.min_eq_right h, List.take_of_length_le (Nat.le_refl _), List.take_of_length_le h]

/-- Behind them none is nearer. -/
theorem within_after {k : Nat} {l : List Hit} {R : Int} {i : Nat} {x y : Hit} (hR : ∀ x ∈ topk k l, x.2 ≤ R) (hi : (topk k l).length ≤ i) (hx : (within R l)[i]? = some x) (hy : y ∈ topk k l) : ¬ x.2 < y.2 := by
  obtain ⟨h1, h2⟩ := within_topk hR
  have hs : Srt (within R l) := sortH_srt _
  rw [← List.take_append_drop (topk k l).length (within R l), h2] at hs
  have hm : x ∈ (within R l).drop (topk k l).length := by
    refine List.mem_of_getElem? (i := i - (topk k l).length) ?_
    rw [List.getElem?_drop]
    rw [show (topk k l).length + (i - (topk k l).length) = i by omega]
    exact hx
  have := (List.pairwise_append.1 hs).2.2 y hy x hm
  rw [hlt_not] at this
  omega

/-- What a search for the first k answers. -/
def TopRes (u u' : H) (l : List Rw) (q : List Int) (k : Int) (s : Sl) (e : Int) : Prop :=
  u.le u' ∧ ((e = topErr l q k ∧ e ≠ 0 ∧ s = ⟨none, 0, 0⟩) ∨ (e = 0 ∧ topErr l q k = 0 ∧ Qok l q ∧ 1 ≤ k ∧ k ≤ 64 ∧ OwnF u u' 62 3 s ((topk k.toNat (l.map (hitOf q))).flatMap encH)))

theorem topErr_ok {l : List Rw} {q : List Int} {k : Int} : topErr l q k = 0 ↔ Qok l q ∧ 1 ≤ k ∧ k ≤ 64 := by
  unfold topErr
  constructor
  · intro h
    split at h
    · rename_i hne; exact absurd h hne
    · rename_i he
      split at h
      · cases h
      · exact ⟨asked_ok.1 (by simpa using he), by omega, by omega⟩
  · rintro ⟨h1, h2, h3⟩
    rw [if_neg (by simp [asked_ok.2 h1]), if_neg (by omega)]

theorem spec.TopK {s t : Sl} {l : List Rw} {q : List Int} {k : Int} {u : H} {K : Sl → Int → H → Prop} (hs : Rws u s l) (ht : Ints u t q) (h : ∀ s' e u', TopRes u u' l q k s' e → K s' e u') : C.flat_TopK s t k u K :=
  spec.flat_TopK hs ht (fun hne => h _ _ u ⟨H.le.refl u, .inl ⟨rfl, hne, rfl⟩⟩) fun hq k1 k2 s' u' ho => h s' 0 u' ⟨ho.le, .inr ⟨rfl, topErr_ok.2 ⟨hq, k1, k2⟩, hq, k1, k2, ho⟩⟩

/-- The hits that it answers, an error or not. -/
theorem TopRes.hts {u u' : H} {l : List Rw} {q : List Int} {k : Int} {s : Sl} {e : Int} (h : TopRes u u' l q k s e) : ∃ L, Hts u' s L ∧ L.length ≤ 64 ∧ (e = 0 → L = topk k.toNat (l.map (hitOf q))) ∧ (e ≠ 0 → L = []) := by
  rcases h.2 with ⟨_, h1, rfl⟩ | ⟨h0, _, _, _, k2, ho⟩
  · exact ⟨[], (OwnF.nil (H.le.refl u') 0 3).own.seg, by simp, fun h => absurd h h1, fun _ => rfl⟩
  · exact ⟨_, ho.hts, by rw [topk_len]; omega, fun _ => rfl, fun h => absurd h0 h⟩

theorem Qok.once {l : List Rw} {q : List Int} (h : Qok l q) : Once (l.map (hitOf q)) := by
  unfold Once
  rw [List.map_map]
  exact h.rows.nodup

end Go.Proofs.YtgfafpiinencpaaGreat
