/- Texts of mine, joined by merge.py: VcGraph, VcTree0, VcTree1, VcNear, VcFrom, VcKnow, VcKnow2, VcTree2, VcRangeG, VcKeys. -/
import Derived.Test.YtpbelkpfljhjlaaGreatDoorMrg6
set_option maxRecDepth 100000

/- VcGraph -/
namespace Go.Proofs.YtpbelkpfljhjlaaGreatDoor

theorem hlt_ne {a b : Hit} (h : hlt a b = true) : a ≠ b := fun e => by rw [e, hlt_irrefl] at h; cases h

section
variable (ht : Int → Hit) (nb : Int → List Int)

/-! ### down -/

def pass1 (b : Hit) (id : Int) : Hit := if hlt (ht id) b = true then ht id else b
def pass (b : Hit) : Hit := (nb b.1).foldl (pass1 ht) b
def itP : Nat → Hit → Hit
  | 0, b => b
  | n + 1, b => pass ht nb (itP n b)

theorem fold_pass (l : List Int) (b : Hit) : l.foldl (pass1 ht) b = b ∨ (hlt (l.foldl (pass1 ht) b) b = true ∧ ∃ i ∈ l, l.foldl (pass1 ht) b = ht i) := by
  induction l generalizing b with
  | nil => exact .inl rfl
  | cons x l ih =>
    simp only [List.foldl_cons]
    by_cases hx : hlt (ht x) b = true
    · have e : pass1 ht b x = ht x := by simp [pass1, hx]
      rw [e]
      rcases ih (ht x) with h | ⟨h, i, hi, e2⟩
      · rw [h]; exact .inr ⟨hx, x, .head _, rfl⟩
      · exact .inr ⟨hlt_lt_trans h hx, i, .tail _ hi, e2⟩
    · have e : pass1 ht b x = b := by simp [pass1, hx]
      rw [e]
      rcases ih b with h | ⟨h, i, hi, e2⟩
      · exact .inl h
      · exact .inr ⟨h, i, .tail _ hi, e2⟩

def rank (ids : List Int) (b : Hit) : Nat := ids.countP fun i => hlt (ht i) b

theorem rank_le (ids : List Int) (b : Hit) : rank ht ids b ≤ ids.length := List.countP_le_length

theorem rank_lt {ids : List Int} {b : Hit} {i : Int} (hi : i ∈ ids) (h : hlt (ht i) b = true) : rank ht ids (ht i) < rank ht ids b := by
  unfold rank
  have hmono : ∀ j, hlt (ht j) (ht i) = true → hlt (ht j) b = true := fun j hj => hlt_lt_trans hj h
  induction ids with
  | nil => cases hi
  | cons x l ih =>
    rw [List.countP_cons, List.countP_cons]
    have hle : l.countP (fun j => hlt (ht j) (ht i)) ≤ l.countP (fun j => hlt (ht j) b) := List.countP_mono_left fun j _ hj => hmono j hj
    by_cases hx : x = i
    · subst hx
      rw [h, hlt_irrefl]; simp; omega
    · have hi' : i ∈ l := by
        cases hi with
        | head => exact absurd rfl hx
        | tail _ h => exact h
      have := ih hi'
      by_cases h1 : hlt (ht x) (ht i) = true
      · rw [h1, hmono x h1]; simpa using this
      · have h1' : hlt (ht x) (ht i) = false := by simpa using h1
        rw [h1']
        by_cases h2 : hlt (ht x) b = true
        · rw [h2]; simp; omega
        · have h2' : hlt (ht x) b = false := by simpa using h2
          rw [h2']; simpa using this

theorem itP_fix {n : Nat} {b : Hit} (h : pass ht nb (itP ht nb n b) = itP ht nb n b) : ∀ k, itP ht nb (n + k) b = itP ht nb n b := by
  intro k
  induction k with
  | zero => rfl
  | succ k ih => show pass ht nb (itP ht nb (n + k) b) = _; rw [ih, h]

/-- Where one gets to, from one on. -/
def downF (N : Nat) (at' : Int) : Int := (itP ht nb N (ht at')).1

theorem pass_in {ids : List Int} {b : Hit} (hid : ∀ i, (ht i).1 = i) (hb : b.1 ∈ ids ∧ b = ht b.1) (hn : ∀ i ∈ nb b.1, i ∈ ids) : (pass ht nb b).1 ∈ ids ∧ pass ht nb b = ht (pass ht nb b).1 := by
  rcases fold_pass ht (nb b.1) b with h | ⟨_, i, hi, h⟩
  · unfold pass; rw [h]; exact hb
  · unfold pass; rw [h, hid]; exact ⟨hn i hi, rfl⟩

theorem itP_in {ids : List Int} {b : Hit} (hid : ∀ i, (ht i).1 = i) (hb : b.1 ∈ ids ∧ b = ht b.1) (hn : ∀ k ∈ ids, ∀ i ∈ nb k, i ∈ ids) : ∀ n, (itP ht nb n b).1 ∈ ids ∧ itP ht nb n b = ht (itP ht nb n b).1
  | 0 => hb
  | n + 1 => pass_in ht nb hid (itP_in hid hb hn n) (hn _ (itP_in hid hb hn n).1)

theorem downF_in {ids : List Int} {N : Nat} {at' : Int} (hid : ∀ i, (ht i).1 = i) (hb : at' ∈ ids) (hn : ∀ k ∈ ids, ∀ i ∈ nb k, i ∈ ids) : downF ht nb N at' ∈ ids :=
  (itP_in ht nb hid (by rw [hid]; exact ⟨hb, rfl⟩) hn N).1

/-! ### from one on -/

def meetF (s : List Int × List Hit) (id : Int) : List Int × List Hit := if id ∈ s.1 then s else (s.1 ++ [id], insH (ht id) s.2)

def expl : Nat → List Int → List Hit → List Int
  | 0, _, _ => []
  | _ + 1, _, [] => []
  | n + 1, met, x :: l => x.1 :: expl n ((nb x.1).foldl (meetF ht) (met, l)).1 ((nb x.1).foldl (meetF ht) (met, l)).2

/-- What holds of those that were met, and those that wait. -/
structure Met (ids : List Int) (s : List Int × List Hit) : Prop where
  nodup : s.1.Nodup
  sub : ∀ i ∈ s.1, i ∈ ids
  wait : ∀ h ∈ s.2, h.1 ∈ s.1 ∧ h = ht h.1
  once : (s.2.map (·.1)).Nodup
  srt : Srt s.2

theorem Met.one {ids : List Int} {at' : Int} (hid : ∀ i, (ht i).1 = i) (h : at' ∈ ids) : Met ht ids ([at'], [ht at']) where
  nodup := by simp
  sub i hi := by simp at hi; rw [hi]; exact h
  wait h' hh := by simp at hh; subst hh; rw [hid]; exact ⟨.head _, rfl⟩
  once := by simp
  srt := by simp [Srt]

theorem Met.step {ids : List Int} {s : List Int × List Hit} (hid : ∀ i, (ht i).1 = i) (h : Met ht ids s) {i : Int} (hi : i ∈ ids) : Met ht ids (meetF ht s i) := by
  unfold meetF
  split
  · exact h
  · rename_i hn
    refine ⟨?_, ?_, ?_, ?_, insH_srt h.srt⟩
    · refine List.nodup_append.2 ⟨h.nodup, by simp, fun a ha b hb => ?_⟩
      simp at hb; subst hb; exact fun e => hn (e ▸ ha)
    · intro j hj
      rcases List.mem_append.1 hj with hj | hj
      · exact h.sub j hj
      · simp at hj; rw [hj]; exact hi
    · intro x hx
      rcases List.mem_cons.1 ((insH_perm (ht i) s.2).mem_iff.1 hx) with rfl | hx
      · rw [hid]; exact ⟨by simp, rfl⟩
      · exact ⟨List.mem_append_left _ (h.wait x hx).1, (h.wait x hx).2⟩
    · have hp := (insH_perm (ht i) s.2).map (·.1)
      refine hp.nodup_iff.2 ?_
      rw [List.map_cons, hid]
      refine List.nodup_cons.2 ⟨fun hm => ?_, h.once⟩
      obtain ⟨x, hx, e⟩ := List.mem_map.1 hm
      exact hn (e ▸ (h.wait x hx).1)

theorem Met.fold {ids : List Int} (hid : ∀ i, (ht i).1 = i) : ∀ {l : List Int} {s : List Int × List Hit}, Met ht ids s → (∀ i ∈ l, i ∈ ids) → Met ht ids (l.foldl (meetF ht) s) := by
  intro l
  induction l with
  | nil => intro s h _; exact h
  | cons x l ih => intro s h hl; exact ih (h.step ht hid (hl x (.head _))) fun i hi => hl i (.tail _ hi)

theorem Met.tail {ids : List Int} {met : List Int} {x : Hit} {l : List Hit} (h : Met ht ids (met, x :: l)) : Met ht ids (met, l) where
  nodup := h.nodup
  sub := h.sub
  wait y hy := h.wait y (.tail _ hy)
  once := (List.nodup_cons.1 (by simpa using h.once)).2
  srt := (List.pairwise_cons.1 h.srt).2

theorem nodup_len {ids l : List Int} (hn : l.Nodup) (hs : ∀ i ∈ l, i ∈ ids) : l.length ≤ ids.length := by
  induction l generalizing ids with
  | nil => simp
  | cons x l ih =>
    have hx := hs x (.head _)
    have h2 : ∀ i ∈ l, i ∈ ids.erase x := fun i hi => by
      refine (List.mem_erase_of_ne ?_).2 (hs i (.tail _ hi))
      exact fun e => (List.nodup_cons.1 hn).1 (e ▸ hi)
    have := ih (List.nodup_cons.1 hn).2 h2
    rw [List.length_erase_of_mem hx] at this
    have : 0 < ids.length := List.length_pos_of_mem hx
    simp only [List.length_cons]; omega

theorem Met.len {ids : List Int} {s : List Int × List Hit} (h : Met ht ids s) : s.1.length ≤ ids.length := nodup_len h.nodup h.sub

/-- How much is left to do: those that wait, and those that were not met. -/
def due (N : Nat) (s : List Int × List Hit) : Nat := s.2.length + (N - s.1.length)

theorem due_step {ids : List Int} {s : List Int × List Hit} (hid : ∀ i, (ht i).1 = i) (h : Met ht ids s) {i : Int} (hi : i ∈ ids) : due ids.length (meetF ht s i) = due ids.length s := by
  have h2 := (h.step ht hid hi).len
  unfold due
  unfold meetF at h2 ⊢
  split
  · rfl
  · rename_i hn
    rw [if_neg hn] at h2
    have e : (insH (ht i) s.2).length = s.2.length + 1 := by rw [(insH_perm (ht i) s.2).length_eq]; simp
    simp only [e, List.length_append, List.length_singleton] at h2 ⊢
    omega

theorem due_fold {ids : List Int} (hid : ∀ i, (ht i).1 = i) : ∀ {l : List Int} {s : List Int × List Hit}, Met ht ids s → (∀ i ∈ l, i ∈ ids) → due ids.length (l.foldl (meetF ht) s) = due ids.length s := by
  intro l
  induction l with
  | nil => intro s _ _; rfl
  | cons x l ih =>
    intro s h hl
    rw [List.foldl_cons, ih (h.step ht hid (hl x (.head _))) fun i hi => hl i (.tail _ hi), due_step ht hid h (hl x (.head _))]

theorem fold_met (l : List Int) (s : List Int × List Hit) : (∀ i ∈ s.1, i ∈ (l.foldl (meetF ht) s).1) ∧ (∀ i ∈ l, i ∈ (l.foldl (meetF ht) s).1) := by
  induction l generalizing s with
  | nil => exact ⟨fun i hi => hi, fun i hi => by cases hi⟩
  | cons x l ih =>
    simp only [List.foldl_cons]
    have h1 : ∀ i ∈ s.1, i ∈ (meetF ht s x).1 := fun i hi => by
      unfold meetF; split
      · exact hi
      · exact List.mem_append_left _ hi
    have h2 : x ∈ (meetF ht s x).1 := by
      unfold meetF; split
      · assumption
      · simp
    refine ⟨fun i hi => (ih _).1 i (h1 i hi), fun i hi => ?_⟩
    cases hi with
    | head => exact (ih _).1 x h2
    | tail _ hi => exact (ih _).2 i hi

theorem fold_wait (hid : ∀ i, (ht i).1 = i) (l : List Int) (s : List Int × List Hit) : ∀ h ∈ (l.foldl (meetF ht) s).2, h ∈ s.2 ∨ h.1 ∉ s.1 := by
  induction l generalizing s with
  | nil => exact fun h hh => .inl hh
  | cons x l ih =>
    intro h hh
    rcases ih (meetF ht s x) h hh with h1 | h1
    · unfold meetF at h1
      split at h1
      · exact .inl h1
      · rename_i hn
        rcases List.mem_cons.1 ((insH_perm (ht x) s.2).mem_iff.1 h1) with rfl | h1
        · rw [hid]; exact .inr hn
        · exact .inl h1
    · refine .inr fun hm => h1 ?_
      unfold meetF; split
      · exact hm
      · exact List.mem_append_left _ hm

theorem expl_in {ids : List Int} (hid : ∀ i, (ht i).1 = i) (hn : ∀ k ∈ ids, ∀ i ∈ nb k, i ∈ ids) : ∀ (n : Nat) (met : List Int) (l : List Hit), Met ht ids (met, l) → ∀ i ∈ expl ht nb n met l, i ∈ ids := by
  intro n
  induction n with
  | zero => intro met l _ i hi; cases hi
  | succ n ih =>
    intro met l h i hi
    cases l with
    | nil => cases hi
    | cons x l =>
      have hx := h.sub _ (h.wait x (.head _)).1
      simp only [expl] at hi
      cases hi with
      | head => exact hx
      | tail _ hi => exact ih _ _ (Met.fold ht hid (h.tail ht) (hn _ hx)) i hi

theorem expl_nodup {ids : List Int} (hid : ∀ i, (ht i).1 = i) (hn : ∀ k ∈ ids, ∀ i ∈ nb k, i ∈ ids) : ∀ (n : Nat) (met : List Int) (l : List Hit), Met ht ids (met, l) →
    (expl ht nb n met l).Nodup ∧ ∀ i ∈ expl ht nb n met l, i ∈ l.map (·.1) ∨ i ∉ met := by
  intro n
  induction n with
  | zero => intro met l _; exact ⟨List.nodup_nil, fun i hi => by cases hi⟩
  | succ n ih =>
    intro met l h
    cases l with
    | nil => exact ⟨List.nodup_nil, fun i hi => by cases hi⟩
    | cons x l =>
      have hx := h.sub _ (h.wait x (.head _)).1
      have hf := Met.fold ht hid (h.tail ht) (hn _ hx)
      obtain ⟨h1, h2⟩ := ih _ _ hf
      have hk : ∀ i ∈ expl ht nb n ((nb x.1).foldl (meetF ht) (met, l)).1 ((nb x.1).foldl (meetF ht) (met, l)).2, i ∈ l.map (·.1) ∨ i ∉ met := by
        intro i hi
        rcases h2 i hi with h3 | h3
        · obtain ⟨y, hy, rfl⟩ := List.mem_map.1 h3
          rcases fold_wait ht hid (nb x.1) (met, l) y hy with h4 | h4
          · exact .inl (List.mem_map.2 ⟨y, h4, rfl⟩)
          · exact .inr h4
        · exact .inr fun hm => h3 ((fold_met ht (nb x.1) (met, l)).1 i hm)
      simp only [expl]
      refine ⟨List.nodup_cons.2 ⟨fun hm => ?_, h1⟩, fun i hi => ?_⟩
      · have honce := List.nodup_cons.1 (show (x.1 :: l.map (·.1)).Nodup by simpa using h.once)
        rcases hk _ hm with h3 | h3
        · exact honce.1 h3
        · exact h3 (h.wait x (.head _)).1
      · cases hi with
        | head => exact .inl (by simp)
        | tail _ hi =>
          rcases hk i hi with h3 | h3
          · exact .inl (by simp at h3 ⊢; exact .inr h3)
          · exact .inr h3

end

/-- From the level lv + c on down to lv. -/
def descF (ht : Int → Hit) (nbl : Nat → Int → List Int) (N lv : Nat) : Nat → Int → Int
  | 0, at' => at'
  | c + 1, at' => descF ht nbl N lv c (downF ht (nbl (lv + c + 1)) N at')

theorem descF_in {ht : Int → Hit} {nbl : Nat → Int → List Int} {ids : List Int} {N lv : Nat} (hid : ∀ i, (ht i).1 = i) (hn : ∀ lv, ∀ k ∈ ids, ∀ i ∈ nbl lv k, i ∈ ids) : ∀ (c : Nat) (at' : Int), at' ∈ ids → descF ht nbl N lv c at' ∈ ids
  | 0, _, h => h
  | c + 1, _at', h => descF_in hid hn c _ (downF_in ht _ hid h (hn _))

end Go.Proofs.YtpbelkpfljhjlaaGreatDoor

/- VcTree0 -/
namespace Go.Proofs.YtpbelkpfljhjlaaGreatDoor

/-- Nothing is known. -/
def H0 : H := fun _ => none
theorem H0_le (u : H) : H0.le u := fun _ _ h => by cases h

theorem Own.f {u : H} {e k : Nat} {s : Sl} {xs : List Value} (h : Own u e k s xs) : OwnF H0 u e k s xs := ⟨h, H0_le u, fun _ _ => rfl⟩

theorem own_known' {u0 u : H} {e k : Nat} {s : Sl} {xs : List Value} (h : OwnF u0 u e k s xs) {g : Nat} (hg : s.blk = some g) : u g ≠ none := by
  rcases h.own.is with h0 | ⟨g', cur, ha, hg', _⟩
  · rw [h0] at hg; simp [Sl.blk] at hg
  · have : g' = g := by simpa [Sl.blk, ha] using hg
    rw [← this, hg']; simp

/-- Whose a block is. -/
inductive Tg where
  | tree
  | src
  | map
  | node (id : Int)
  | vec (id : Int)
  | arr (id : Int) (lv : Nat)

structure Nd where
  p : Nat
  sv : Sl
  v : List Int
  ks : List Sl
  kn : List (List Int)
  top : Nat

def nodeC (n : Nd) : List Value := (.slice n.sv.a n.sv.n n.sv.c :: n.ks.map fun s => .slice s.a s.n s.c) ++ [.int .i64 n.top]

def ptrs (g : List (Int × Nd)) : List (Int × Value) := g.map fun x => (x.1, .pointer (some ⟨x.2.p, 0, none⟩))

def getN (g : List (Int × Nd)) (id : Int) : Option Nd := (g.find? fun x => x.1 == id).map (·.2)

theorem getL_ptrs (g : List (Int × Nd)) (id : Int) : getL (ptrs g) id = (getN g id).map fun n => Value.pointer (some ⟨n.p, 0, none⟩) := by
  induction g with
  | nil => rfl
  | cons x g ih =>
    unfold getL getN ptrs at *
    simp only [List.map_cons, List.find?_cons]
    cases hx : x.1 == id with
    | true => rfl
    | false => exact ih

theorem getN_mem {g : List (Int × Nd)} {id : Int} {n : Nd} (h : getN g id = some n) : (id, n) ∈ g := by
  unfold getN at h
  cases hf : g.find? (fun x => x.1 == id) with
  | none => rw [hf] at h; cases h
  | some x =>
    rw [hf] at h
    cases h
    have h1 := List.mem_of_find?_eq_some hf
    have h2 := List.find?_some hf
    have : x.1 = id := by simpa using h2
    rw [← this]; exact h1

theorem getN_none {g : List (Int × Nd)} {id : Int} : getN g id = none ↔ id ∉ g.map (·.1) := by
  unfold getN
  rw [Option.map_eq_none_iff, List.find?_eq_none]
  simp only [List.mem_map, not_exists, not_and, beq_iff_eq]

theorem getN_some {g : List (Int × Nd)} {id : Int} (h : id ∈ g.map (·.1)) : ∃ n, getN g id = some n := by
  cases hx : getN g id with
  | some n => exact ⟨n, rfl⟩
  | none => exact absurd h (getN_none.1 hx)

theorem getN_eq {g : List (Int × Nd)} (hn : (g.map (·.1)).Nodup) {id : Int} {n : Nd} (h : (id, n) ∈ g) : getN g id = some n := by
  obtain ⟨m, hm⟩ := getN_some (g := g) (id := id) (List.mem_map.2 ⟨_, h, rfl⟩)
  have h2 := getN_mem hm
  obtain ⟨i, hi, ei⟩ := List.mem_iff_getElem.1 h
  obtain ⟨j, hj, ej⟩ := List.mem_iff_getElem.1 h2
  have hne : ∀ {i j : Nat} (hi : i < g.length) (hj : j < g.length), i < j → (g[i]).1 ≠ (g[j]).1 := fun hi hj hij => by
    have := List.pairwise_iff_getElem.1 hn _ _ (by simpa using hi) (by simpa using hj) hij
    simpa using this
  rcases Nat.lt_trichotomy i j with hij | hij | hij
  · exact absurd (by rw [ei, ej]) (hne hi hj hij)
  · subst hij; rw [ei] at ej; cases ej; exact hm
  · exact absurd (by rw [ei, ej]) (hne hj hi hij)

/-- A node in memory. -/
structure NdAt (fp : Nat → Option Tg) (u : H) (id : Int) (n : Nd) : Prop where
  cell : u n.p = some (.cells (nodeC n).toArray 114 (0, 0))
  tag : fp n.p = some (.node id)
  vec : Ints u n.sv n.v
  vtag : ∀ g, n.sv.blk = some g → fp g = some (.vec id)
  kslen : n.ks.length = 31
  knlen : n.kn.length = 31
  arr : ∀ (lv : Nat) (s : Sl) (l : List Int), n.ks[lv]? = some s → n.kn[lv]? = some l → OwnF H0 u 3 1 s (l.flatMap encI) ∧ ∀ g, s.blk = some g → fp g = some (.arr id lv)

/-- A node's own blocks. -/
def Mine (fp : Nat → Option Tg) (id : Int) (c : Nat) : Prop := fp c = some (.node id) ∨ fp c = some (.vec id) ∨ ∃ lv, fp c = some (.arr id lv)

theorem Mine.some {fp : Nat → Option Tg} {id : Int} {c : Nat} (h : Mine fp id c) : fp c ≠ none := by
  rcases h with e | e | ⟨lv, e⟩ <;> rw [e] <;> simp

theorem NdAt.keep {fp fp' : Nat → Option Tg} {u u' : H} {id : Int} {n : Nd} (h : NdAt fp u id n) (hf : ∀ c, Mine fp id c → fp' c = fp c) (hu : ∀ c o, u c = some o → Mine fp id c → u' c = some o) : NdAt fp' u' id n where
  cell := hu _ _ h.cell (.inl h.tag)
  tag := by rw [hf _ (.inl h.tag)]; exact h.tag
  vec := Seg.else h.vec fun g o hg ho => hu g o ho (.inr (.inl (h.vtag g hg)))
  vtag g hg := by rw [hf _ (.inr (.inl (h.vtag g hg)))]; exact h.vtag g hg
  kslen := h.kslen
  knlen := h.knlen
  arr lv s l h1 h2 := by
    obtain ⟨h3, h4⟩ := h.arr lv s l h1 h2
    exact ⟨(h3.own.le fun b o hb hub => hu b o hub (.inr (.inr ⟨lv, h4 b hb⟩))).f, fun g hg => by rw [hf _ (.inr (.inr ⟨lv, h4 g hg⟩))]; exact h4 g hg⟩

structure Tr where
  dim : Int
  links : Int
  src : Nat
  m : Nat
  st : Int
  g : List (Int × Nd)
  entry : Int

def treeC (T : Tr) : List Value := [.int .i64 T.dim, .int .i64 T.links, .pointer (some ⟨T.src, 0, none⟩), .map (some T.m), .int .i64 T.entry]

/-- A tree in memory. -/
structure TrAt (fp : Nat → Option Tg) (u : H) (b : Nat) (T : Tr) : Prop where
  cell : u b = some (.cells (treeC T).toArray 91 (0, 0))
  src : u T.src = some (.cells #[.int .u64 T.st] 168 (0, 0))
  stU : U64 T.st
  map : MapAt u T.m (ptrs T.g)
  btag : fp b = some .tree
  stag : fp T.src = some .src
  mtag : fp T.m = some .map
  nodes : ∀ x ∈ T.g, NdAt fp u x.1 x.2

theorem TrAt.nodup {fp : Nat → Option Tg} {u : H} {b : Nat} {T : Tr} (h : TrAt fp u b T) : (T.g.map (·.1)).Nodup := by
  obtain ⟨es, c, _, he⟩ := h.map
  have := he.nodup
  unfold ptrs at this
  rw [List.map_map] at this
  exact this

theorem TrAt.keep {fp fp' : Nat → Option Tg} {u u' : H} {b : Nat} {T : Tr} (h : TrAt fp u b T) (hf : ∀ c, fp c ≠ none → fp' c = fp c) (hu : ∀ c o, u c = some o → fp c ≠ none → u' c = some o) : TrAt fp' u' b T where
  cell := hu _ _ h.cell (by rw [h.btag]; simp)
  src := hu _ _ h.src (by rw [h.stag]; simp)
  stU := h.stU
  map := h.map.else fun o ho => hu _ _ ho (by rw [h.mtag]; simp)
  btag := by rw [hf _ (by rw [h.btag]; simp)]; exact h.btag
  stag := by rw [hf _ (by rw [h.stag]; simp)]; exact h.stag
  mtag := by rw [hf _ (by rw [h.mtag]; simp)]; exact h.mtag
  nodes x hx := (h.nodes x hx).keep (fun c hc => hf c hc.some) fun c o ho ht => hu c o ho ht.some

theorem TrAt.mono {fp : Nat → Option Tg} {u u' : H} {b : Nat} {T : Tr} (h : TrAt fp u b T) (hu : u.le u') : TrAt fp u' b T := h.keep (fun _ _ => rfl) fun c o ho _ => hu c o ho

theorem TrAt.node {fp : Nat → Option Tg} {u : H} {b : Nat} {T : Tr} (h : TrAt fp u b T) {id : Int} {n : Nd} (hn : getN T.g id = some n) : NdAt fp u id n := h.nodes _ (getN_mem hn)

/-! ### what stands in the cells -/

theorem tree_cells {fp : Nat → Option Tg} {u : H} {b : Nat} {T : Tr} (h : TrAt fp u b T) : u.cell? ⟨b, 0, none⟩ = some (.int .i64 T.dim) ∧ u.cell? ((Addr.mk b 0 none).add 1) = some (.int .i64 T.links) ∧
    u.cell? ((Addr.mk b 0 none).add 2) = some (.pointer (some ⟨T.src, 0, none⟩)) ∧ u.cell? ((Addr.mk b 0 none).add 3) = some (.map (some T.m)) ∧ u.cell? ((Addr.mk b 0 none).add 4) = some (.int .i64 T.entry) := by
  have hb := h.cell
  refine ⟨?_, ?_, ?_, ?_, ?_⟩ <;> simp [H.cell?, Addr.add, hb, treeC]

theorem nodeC_len {n : Nd} (h : n.ks.length = 31) : (nodeC n).length = 33 := by simp [nodeC, h]

theorem nodeC_v (n : Nd) : (nodeC n)[0]? = some (.slice n.sv.a n.sv.n n.sv.c) := by simp [nodeC]

theorem nodeC_k {n : Nd} {lv : Nat} {s : Sl} (h : n.ks[lv]? = some s) : (nodeC n)[1 + lv]? = some (.slice s.a s.n s.c) := by
  obtain ⟨hl, he⟩ := List.getElem?_eq_some_iff.1 h
  unfold nodeC
  rw [List.getElem?_append_left (by simp; omega), Nat.add_comm, List.getElem?_cons_succ, List.getElem?_map, h]
  rfl

theorem nodeC_top {n : Nd} (h : n.ks.length = 31) : (nodeC n)[32]? = some (.int .i64 n.top) := by
  unfold nodeC
  rw [List.getElem?_append_right (by simp [h])]
  simp [h]

theorem node_cell {fp : Nat → Option Tg} {u : H} {id : Int} {n : Nd} (h : NdAt fp u id n) (i : Nat) : u.cell? ⟨n.p, i, none⟩ = (nodeC n)[i]? := by
  simp [H.cell?, h.cell]

/-- A node, one of its lists another. -/
def Nd.setK (n : Nd) (lv : Nat) (s : Sl) (l : List Int) : Nd := { n with ks := n.ks.set lv s, kn := n.kn.set lv l }

theorem nodeC_set {n : Nd} {lv : Nat} (h : lv < n.ks.length) (s : Sl) (l : List Int) : nodeC (n.setK lv s l) = (nodeC n).set (1 + lv) (.slice s.a s.n s.c) := by
  unfold nodeC Nd.setK
  simp only
  rw [List.set_append_left _ _ (by simp; omega), Nat.add_comm, List.set_cons_succ, List.map_set]

/-- One of a node's lists stored. -/
theorem st_known {u : H} {n : Nd} (hc : u n.p = some (.cells (nodeC n).toArray 114 (0, 0))) (hk : n.ks.length = 31) {lv : Nat} (hl : lv < 31) {s : Sl} (l : List Int) {f : H → Prop}
    (hf : f (u.ins n.p (.cells (nodeC (n.setK lv s l)).toArray 114 (0, 0)))) : H.St u ⟨n.p, 1 + lv, none⟩ [.slice s.a s.n s.c] f := by
  refine ⟨_, _, hc, rfl, by simp [nodeC_len hk]; omega, by simp [Value.oneCell'], ?_⟩
  have e : wr (nodeC n).toArray (1 + lv) [.slice s.a s.n s.c] = (nodeC (n.setK lv s l)).toArray := by
    rw [nodeC_set (by rw [hk]; exact hl)]
    apply Array.ext'
    rw [wr_toList _ _ _ (by simp [nodeC_len hk]; omega)]
    simp only [List.length_singleton]
    rw [List.set_eq_take_append_cons_drop, if_pos (by rw [nodeC_len hk]; omega)]
    simp
  simp only [e]
  exact hf

/-- The nodes, one of them another. -/
def setN (g : List (Int × Nd)) (id : Int) (n : Nd) : List (Int × Nd) := g.map fun x => if x.1 = id then (x.1, n) else x

theorem setN_ids (g : List (Int × Nd)) (id : Int) (n : Nd) : (setN g id n).map (·.1) = g.map (·.1) := by
  unfold setN
  rw [List.map_map]
  refine List.map_congr_left fun x _ => ?_
  simp only [Function.comp]
  split <;> rfl

theorem setN_ptrs {g : List (Int × Nd)} {id : Int} {n n' : Nd} (hnd : (g.map (·.1)).Nodup) (h : getN g id = some n) (hp : n'.p = n.p) : ptrs (setN g id n') = ptrs g := by
  unfold setN ptrs
  rw [List.map_map]
  refine List.map_congr_left fun x hx => ?_
  simp only [Function.comp]
  split
  · rename_i e
    have : getN g id = some x.2 := getN_eq hnd (by rw [← e]; exact hx)
    rw [h] at this
    cases this
    simp [hp]
  · rfl

theorem getN_setN {g : List (Int × Nd)} {id : Int} {n : Nd} (i : Int) : getN (setN g id n) i = if i = id then (getN g i).map fun _ => n else getN g i := by
  induction g with
  | nil => simp [setN, getN]
  | cons x g ih =>
    unfold setN getN at *
    simp only [List.map_cons, List.find?_cons]
    by_cases hx : x.1 = id
    · simp only [hx, if_true]
      by_cases hi : id = i
      · subst hi; simp
      · simp only [beq_false_of_ne hi]
        exact ih
    · simp only [if_neg hx]
      by_cases hi : x.1 = i
      · subst hi; simp [hx]
      · simp only [beq_false_of_ne hi]
        exact ih

theorem mem_setN {g : List (Int × Nd)} {id : Int} {n : Nd} {x : Int × Nd} (h : x ∈ setN g id n) : (x.1 ≠ id ∧ x ∈ g) ∨ (x = (id, n) ∧ id ∈ g.map (·.1)) := by
  obtain ⟨y, hy, rfl⟩ := List.mem_map.1 h
  split
  · rename_i e; exact .inr ⟨by rw [e], List.mem_map.2 ⟨y, hy, e⟩⟩
  · rename_i e; exact .inl ⟨e, hy⟩

/-- One node has turned; whatever else is the tree's is as it was. -/
theorem TrAt.set {fp fp' : Nat → Option Tg} {u u' : H} {b : Nat} {T : Tr} {id : Int} {n n' : Nd} (h : TrAt fp u b T) (hn : getN T.g id = some n) (hp : n'.p = n.p) (hn' : NdAt fp' u' id n') (hf : ∀ c, fp c ≠ none → ¬ Mine fp id c → fp' c = fp c)
    (hu : ∀ c o, u c = some o → fp c ≠ none → ¬ Mine fp id c → u' c = some o) : TrAt fp' u' b { T with g := setN T.g id n' } := by
  have no : ∀ {c : Nat} {t : Tg}, fp c = some t → (∀ i, t ≠ .node i) → (∀ i, t ≠ .vec i) → (∀ i lv, t ≠ .arr i lv) → fp c ≠ none ∧ ¬ Mine fp id c := fun e h1 h2 h3 => ⟨by rw [e]; simp, by
    rintro (e2 | e2 | ⟨lv, e2⟩) <;> rw [e] at e2 <;> cases e2
    · exact h1 _ rfl
    · exact h2 _ rfl
    · exact h3 _ _ rfl⟩
  have nb := no h.btag (by simp) (by simp) (by simp)
  have ns := no h.stag (by simp) (by simp) (by simp)
  have nm := no h.mtag (by simp) (by simp) (by simp)
  refine ⟨hu _ _ h.cell nb.1 nb.2, hu _ _ h.src ns.1 ns.2, h.stU, ?_, by rw [hf _ nb.1 nb.2]; exact h.btag, by simp only; rw [hf _ ns.1 ns.2]; exact h.stag, by simp only; rw [hf _ nm.1 nm.2]; exact h.mtag, fun x hx => ?_⟩
  · simp only
    rw [setN_ptrs h.nodup hn hp]
    exact h.map.else fun o ho => hu _ _ ho nm.1 nm.2
  · rcases mem_setN hx with ⟨hne, hx⟩ | ⟨rfl, _⟩
    · have hnm : ∀ c, Mine fp x.1 c → ¬ Mine fp id c := by
        rintro c (e | e | ⟨lv, e⟩) (e2 | e2 | ⟨lv2, e2⟩) <;> rw [e] at e2 <;> cases e2 <;> exact hne rfl
      exact (h.nodes x hx).keep (fun c hc => hf c hc.some (hnm c hc)) fun c o ho hc => hu c o ho hc.some (hnm c hc)
    · exact hn'

/-- A tree in memory, all of its blocks made behind u0. -/
structure In (u0 u : H) (fp : Nat → Option Tg) (b : Nat) (T : Tr) : Prop where
  tr : TrAt fp u b T
  le : u0.le u
  out : ∀ c, fp c ≠ none → u0 c = none
  known : ∀ c, fp c ≠ none → u c ≠ none

/-- A tree has turned: what is not its own is as it was. -/
structure Turn (u : H) (fp : Nat → Option Tg) (u' : H) (fp' : Nat → Option Tg) : Prop where
  keep : ∀ c o, u c = some o → fp c = none → u' c = some o
  grow : ∀ c, fp' c ≠ none → fp c ≠ none ∨ u c = none

theorem Turn.refl (u : H) (fp : Nat → Option Tg) : Turn u fp u fp := ⟨fun _ _ h _ => h, fun _ h => .inl h⟩

theorem Turn.trans {u u1 u2 : H} {fp fp1 fp2 : Nat → Option Tg} (h : Turn u fp u1 fp1) (k : Turn u1 fp1 u2 fp2) : Turn u fp u2 fp2 where
  keep c o hc hf := k.keep c o (h.keep c o hc hf) (by
    cases e : fp1 c with
    | none => rfl
    | some t => rcases h.grow c (by rw [e]; simp) with h1 | h1
                · exact absurd hf h1
                · rw [hc] at h1; cases h1)
  grow c hc := by
    rcases k.grow c hc with h1 | h1
    · exact h.grow c h1
    · cases e : fp c with
      | some t => exact .inl (by simp)
      | none =>
        right
        cases e2 : u c with
        | none => rfl
        | some o => rw [h.keep c o e2 e] at h1; cases h1

theorem Turn.mono {u u1 : H} {fp : Nat → Option Tg} (h : u.le u1) : Turn u fp u1 fp := ⟨fun c o hc _ => h c o hc, fun _ h => .inl h⟩

/-- Whatever is apart from a tree stays. -/
theorem Turn.apart {u u' v : H} {fp fp' : Nat → Option Tg} (h : Turn u fp u' fp') (hv : v.le u) (hd : ∀ c, fp c ≠ none → v c = none) : v.le u' ∧ ∀ c, fp' c ≠ none → v c = none := by
  refine ⟨fun c o hc => h.keep c o (hv c o hc) ?_, fun c hc => ?_⟩
  · cases e : fp c with
    | none => rfl
    | some t => have := hd c (by rw [e]; simp); rw [hc] at this; cases this
  · rcases h.grow c hc with h1 | h1
    · exact hd c h1
    · exact hv.none h1

theorem In.mono {u0 u u' : H} {fp : Nat → Option Tg} {b : Nat} {T : Tr} (h : In u0 u fp b T) (hu : u.le u') : In u0 u' fp b T :=
  ⟨h.tr.mono hu, h.le.trans hu, h.out, fun c hc => by
    obtain ⟨o, ho⟩ := Option.ne_none_iff_exists'.1 (h.known c hc)
    rw [hu c o ho]; simp⟩

/-- One node's blocks have turned, and no others. -/
structure Shift (fp : Nat → Option Tg) (u : H) (id : Int) (fp' : Nat → Option Tg) (u' : H) : Prop where
  tags : ∀ c, fp c ≠ none → ¬ Mine fp id c → fp' c = fp c
  keep : ∀ c o, u c = some o → ¬ Mine fp id c → u' c = some o
  grow : ∀ c, fp' c ≠ none → fp c ≠ none ∨ u c = none
  known : ∀ c, fp' c ≠ none → u' c ≠ none

theorem Shift.turn {fp fp' : Nat → Option Tg} {u u' : H} {id : Int} (h : Shift fp u id fp' u') : Turn u fp u' fp' :=
  ⟨fun c o hc hf => h.keep c o hc fun hm => hm.some hf, h.grow⟩

theorem NdAt.level {u u17 : H} {fp : Nat → Option Tg} {id : Int} {n : Nd} (hN : NdAt fp u id n) (hnu : ∀ c, fp c ≠ none → u c ≠ none) {lv : Nat} {s s' : Sl} {l' : List Int} (hs : n.ks[lv]? = some s) (ho : OwnF H0 u17 3 1 s' (l'.flatMap encI))
    (he : ∀ c o, u c = some o → s.blk ≠ some c → u17 c = some o) (hb : ∀ c, s'.blk = some c → s.blk = some c ∨ u c = none) :
    ∃ fp', NdAt fp' (u17.ins n.p (.cells (nodeC (n.setK lv s' l')).toArray 114 (0, 0))) id (n.setK lv s' l') ∧ Shift fp u id fp' (u17.ins n.p (.cells (nodeC (n.setK lv s' l')).toArray 114 (0, 0))) := by
  have hlv : lv < 31 := by rw [← hN.kslen]; exact (List.getElem?_eq_some_iff.1 hs).1
  obtain ⟨l, hl⟩ : ∃ l, n.kn[lv]? = some l := ⟨n.kn[lv]'(by rw [hN.knlen]; exact hlv), List.getElem?_eq_getElem _⟩
  have hst : ∀ g, s.blk = some g → fp g = some (.arr id lv) := (hN.arr lv s l hs hl).2
  have hsp : s.blk ≠ some n.p := fun e => by have := hst _ e; rw [hN.tag] at this; cases this
  have hs'p : s'.blk ≠ some n.p := fun e => by
    rcases hb _ e with h1 | h1
    · exact hsp h1
    · exact hnu n.p (by rw [hN.tag]; simp) h1
  let fp' : Nat → Option Tg := fun c => open Classical in if s'.blk = some c then some (.arr id lv) else if s.blk = some c then none else fp c
  have e1 : ∀ c, s'.blk = some c → fp' c = some (.arr id lv) := fun c hc => if_pos hc
  have e2 : ∀ c, s'.blk ≠ some c → s.blk ≠ some c → fp' c = fp c := fun c h1 h2 => (if_neg h1).trans (if_neg h2)
  have e3 : ∀ c, s'.blk ≠ some c → s.blk = some c → fp' c = none := fun c h1 h2 => (if_neg h1).trans (if_pos h2)
  have e4 : ∀ c, fp c ≠ none → s.blk ≠ some c → fp' c = fp c := fun c h1 h2 => e2 c (fun e => (hb c e).elim h2 (hnu c h1)) h2
  have hins : ∀ c, c ≠ n.p → (u17.ins n.p (.cells (nodeC (n.setK lv s' l')).toArray 114 (0, 0))) c = u17 c := fun c hc => H.ins_other _ _ hc
  have hkeep : ∀ c o, u c = some o → c ≠ n.p → s.blk ≠ some c → (u17.ins n.p (.cells (nodeC (n.setK lv s' l')).toArray 114 (0, 0))) c = some o := fun c o h1 h2 h3 => by rw [hins c h2]; exact he c o h1 h3
  refine ⟨fp', ?_, ⟨fun c h1 h2 => e4 c h1 fun e => h2 (.inr (.inr ⟨lv, hst c e⟩)), fun c o h1 h3 => hkeep c o h1 (fun e => h3 (.inl (by rw [e]; exact hN.tag))) fun e => h3 (.inr (.inr ⟨lv, hst c e⟩)), fun c hc => ?_, fun c hc => ?_⟩⟩
  · refine ⟨H.ins_same _ _ _, ?_, ?_, fun g hg => ?_, by simp [Nd.setK, hN.kslen], by simp [Nd.setK, hN.knlen], fun lv2 s2 l2 h1 h2 => ?_⟩
    · show fp' n.p = _; rw [e2 _ hs'p hsp]; exact hN.tag
    · refine Seg.else hN.vec fun g o hg hgo => hkeep g o hgo (fun e => ?_) fun e => ?_
      · have := hN.vtag g hg; rw [e, hN.tag] at this; cases this
      · have := hN.vtag g hg; rw [hst g e] at this; cases this
    · have hv := hN.vtag g hg
      rw [e4 g (by rw [hv]; simp) (fun e => by rw [hst g e] at hv; cases hv)]; exact hv
    · by_cases e : lv2 = lv
      · subst e
        simp only [Nd.setK] at h1 h2
        rw [List.getElem?_set_self (by rw [hN.kslen]; exact hlv)] at h1
        rw [List.getElem?_set_self (by rw [hN.knlen]; exact hlv)] at h2
        cases h1; cases h2
        exact ⟨(ho.own.le fun c o hc hco => by rw [hins c (fun e => hs'p (e ▸ hc))]; exact hco).f, fun g hg => e1 g hg⟩
      · simp only [Nd.setK] at h1 h2
        rw [List.getElem?_set_ne (Ne.symm e)] at h1 h2
        obtain ⟨h3, h4⟩ := hN.arr lv2 s2 l2 h1 h2
        have ne : ∀ g, s2.blk = some g → s.blk ≠ some g := fun g hg e5 => by
          have := h4 g hg; rw [hst g e5] at this; cases this; exact e rfl
        refine ⟨(h3.own.le fun c o hc hco => hkeep c o hco (fun e6 => ?_) (ne c hc)).f, fun g hg => ?_⟩
        · have := h4 c hc; rw [e6, hN.tag] at this; cases this
        · rw [e4 g (by rw [h4 g hg]; simp) (ne g hg)]; exact h4 g hg
  · by_cases h1 : s'.blk = some c
    · rcases hb c h1 with h2 | h2
      · exact .inl (by rw [hst c h2]; simp)
      · exact .inr h2
    · by_cases h2 : s.blk = some c
      · exact absurd (e3 c h1 h2) hc
      · rw [e2 c h1 h2] at hc; exact .inl hc
  · by_cases h1 : s'.blk = some c
    · have := own_known' ho h1
      rw [hins c (fun e => hs'p (e ▸ h1))]; exact this
    · by_cases h2 : s.blk = some c
      · exact absurd (e3 c h1 h2) hc
      · rw [e2 c h1 h2] at hc
        obtain ⟨o, hco⟩ := Option.ne_none_iff_exists'.1 (hnu c hc)
        by_cases h3 : c = n.p
        · rw [h3, H.ins_same]; simp
        · rw [hkeep c o hco h3 h2]; simp

/-- What was known ahead of a tree stays, one node turned. -/
theorem In.base {u0 u u' : H} {fp fp' : Nat → Option Tg} {b : Nat} {T : Tr} (h : In u0 u fp b T) (ht : Turn u fp u' fp') : u0.le u' ∧ ∀ c, fp' c ≠ none → u0 c = none := ht.apart h.le h.out

theorem In.shift {u0 u u' : H} {fp fp' : Nat → Option Tg} {b : Nat} {T : Tr} (h : In u0 u fp b T) {id : Int} {n n' : Nd} (hn : getN T.g id = some n) (hp : n'.p = n.p) (hn' : NdAt fp' u' id n') (sh : Shift fp u id fp' u') :
    In u0 u' fp' b { T with g := setN T.g id n' } :=
  ⟨h.tr.set hn hp hn' sh.tags fun c o h1 _ h3 => sh.keep c o h1 h3, (h.base sh.turn).1, (h.base sh.turn).2, sh.known⟩

/-- One that is not there yet, or no more, has turned. -/
theorem In.shiftOut {u0 u u' : H} {fp fp' : Nat → Option Tg} {b : Nat} {T : Tr} (h : In u0 u fp b T) {id : Int} (hid : id ∉ T.g.map (·.1)) (sh : Shift fp u id fp' u') : In u0 u' fp' b T := by
  have no : ∀ {c : Nat} {t : Tg}, fp c = some t → (∀ i, t ≠ .node i) → (∀ i, t ≠ .vec i) → (∀ i lv, t ≠ .arr i lv) → fp c ≠ none ∧ ¬ Mine fp id c := fun e h1 h2 h3 => ⟨by rw [e]; simp, by
    rintro (e2 | e2 | ⟨lv, e2⟩) <;> rw [e] at e2 <;> cases e2
    · exact h1 _ rfl
    · exact h2 _ rfl
    · exact h3 _ _ rfl⟩
  have nb := no h.tr.btag (by simp) (by simp) (by simp)
  have ns := no h.tr.stag (by simp) (by simp) (by simp)
  have nm := no h.tr.mtag (by simp) (by simp) (by simp)
  refine ⟨⟨sh.keep _ _ h.tr.cell nb.2, sh.keep _ _ h.tr.src ns.2, h.tr.stU, h.tr.map.else fun o ho => sh.keep _ _ ho nm.2, by rw [sh.tags _ nb.1 nb.2]; exact h.tr.btag, by rw [sh.tags _ ns.1 ns.2]; exact h.tr.stag,
    by rw [sh.tags _ nm.1 nm.2]; exact h.tr.mtag, fun x hx => ?_⟩, (h.base sh.turn).1, (h.base sh.turn).2, sh.known⟩
  have hne : x.1 ≠ id := fun e => hid (List.mem_map.2 ⟨x, hx, e⟩)
  have hnm : ∀ c, Mine fp x.1 c → ¬ Mine fp id c := by
    rintro c (e | e | ⟨lv, e⟩) (e2 | e2 | ⟨lv2, e2⟩) <;> rw [e] at e2 <;> cases e2 <;> exact hne rfl
  exact (h.tr.nodes x hx).keep (fun c hc => sh.tags c hc.some (hnm c hc)) fun c o ho hc => sh.keep c o ho (hnm c hc)

/-- One list of one node another. -/
theorem In.level {u0 u u17 : H} {fp : Nat → Option Tg} {b : Nat} {T : Tr} (h : In u0 u fp b T) {id : Int} {n : Nd} (hn : getN T.g id = some n) {lv : Nat} {s s' : Sl} {l' : List Int} (hs : n.ks[lv]? = some s) (ho : OwnF H0 u17 3 1 s' (l'.flatMap encI))
    (he : ∀ c o, u c = some o → s.blk ≠ some c → u17 c = some o) (hb : ∀ c, s'.blk = some c → s.blk = some c ∨ u c = none) :
    ∃ fp', In u0 (u17.ins n.p (.cells (nodeC (n.setK lv s' l')).toArray 114 (0, 0))) fp' b { T with g := setN T.g id (n.setK lv s' l') } ∧ Turn u fp (u17.ins n.p (.cells (nodeC (n.setK lv s' l')).toArray 114 (0, 0))) fp' := by
  obtain ⟨fp', h1, h2⟩ := (h.tr.node hn).level h.known hs ho he hb
  exact ⟨fp', h.shift hn rfl h1 h2, h2.turn⟩

/-! ### the tree's own blocks -/

theorem In.ne_node {u0 u : H} {fp : Nat → Option Tg} {b : Nat} {T : Tr} (h : In u0 u fp b T) : T.src ≠ b ∧ T.m ≠ b ∧ T.src ≠ T.m ∧ ∀ i c, Mine fp i c → c ≠ b ∧ c ≠ T.m ∧ c ≠ T.src := by
  refine ⟨fun e => ?_, fun e => ?_, fun e => ?_, fun i c hm => ⟨fun e => ?_, fun e => ?_, fun e => ?_⟩⟩
  · have := h.tr.stag; rw [e, h.tr.btag] at this; cases this
  · have := h.tr.mtag; rw [e, h.tr.btag] at this; cases this
  · have := h.tr.mtag; rw [← e, h.tr.stag] at this; cases this
  · rw [e] at hm; rcases hm with e2 | e2 | ⟨_, e2⟩ <;> rw [h.tr.btag] at e2 <;> cases e2
  · rw [e] at hm; rcases hm with e2 | e2 | ⟨_, e2⟩ <;> rw [h.tr.mtag] at e2 <;> cases e2
  · rw [e] at hm; rcases hm with e2 | e2 | ⟨_, e2⟩ <;> rw [h.tr.stag] at e2 <;> cases e2

/-- A block of the tree's written over. -/
theorem In.write {u0 u : H} {fp : Nat → Option Tg} {b : Nat} {T : Tr} (h : In u0 u fp b T) {c : Nat} (hc : fp c ≠ none) (o : Obj) : Turn u fp (u.ins c o) fp ∧ u0.le (u.ins c o) ∧ ∀ x, fp x ≠ none → (u.ins c o) x ≠ none := by
  have ht : Turn u fp (u.ins c o) fp := ⟨fun x y hx hf => by
    have hne : x ≠ c := fun e => hc (by rw [← e]; exact hf)
    rw [H.ins_other _ _ hne]; exact hx, fun x hx => .inl hx⟩
  refine ⟨ht, (h.base ht).1, fun x hx => ?_⟩
  unfold H.ins
  split
  · simp
  · exact h.known x hx

theorem In.setEntry {u0 u : H} {fp : Nat → Option Tg} {b : Nat} {T : Tr} (h : In u0 u fp b T) (e : Int) : In u0 (u.ins b (.cells (treeC { T with entry := e }).toArray 91 (0, 0))) fp b { T with entry := e } ∧
    Turn u fp (u.ins b (.cells (treeC { T with entry := e }).toArray 91 (0, 0))) fp := by
  obtain ⟨h1, h2, h3⟩ := h.write (c := b) (by rw [h.tr.btag]; simp) (.cells (treeC { T with entry := e }).toArray 91 (0, 0))
  obtain ⟨n1, n2, _, n4⟩ := h.ne_node
  exact ⟨⟨⟨H.ins_same _ _ _, by rw [H.ins_other _ _ n1]; exact h.tr.src, h.tr.stU, h.tr.map.else fun o ho => by rw [H.ins_other _ _ n2]; exact ho, h.tr.btag, h.tr.stag, h.tr.mtag,
    fun x hx => (h.tr.nodes x hx).keep (fun _ _ => rfl) fun c o ho hm => by rw [H.ins_other _ _ (n4 _ c hm).1]; exact ho⟩, h2, h.out, h3⟩, h1⟩

theorem st_entry {u : H} {fp : Nat → Option Tg} {b : Nat} {T : Tr} (h : TrAt fp u b T) {e : Int} {f : H → Prop} (hf : f (u.ins b (.cells (treeC { T with entry := e }).toArray 91 (0, 0)))) : H.St u ((Addr.mk b 0 none).add 4) [.int .i64 e] f := by
  rw [Addr.add_lit]
  refine ⟨_, _, h.cell, rfl, by simp [treeC], by simp [Value.oneCell'], ?_⟩
  have : wr (treeC T).toArray (0 + 4) [.int .i64 e] = (treeC { T with entry := e }).toArray := by simp [wr, treeC]
  simp only [this]
  exact hf

theorem In.setSrc {u0 u : H} {fp : Nat → Option Tg} {b : Nat} {T : Tr} (h : In u0 u fp b T) {st : Int} (hst : U64 st) : In u0 (u.ins T.src (.cells #[.int .u64 st] 168 (0, 0))) fp b { T with st := st } ∧ Turn u fp (u.ins T.src (.cells #[.int .u64 st] 168 (0, 0))) fp := by
  obtain ⟨h1, h2, h3⟩ := h.write (c := T.src) (by rw [h.tr.stag]; simp) (.cells #[.int .u64 st] 168 (0, 0))
  obtain ⟨n1, n2, n3, n4⟩ := h.ne_node
  exact ⟨⟨⟨by rw [H.ins_other _ _ (Ne.symm n1)]; exact h.tr.cell, H.ins_same _ _ _, hst, h.tr.map.else fun o ho => by rw [H.ins_other _ _ (Ne.symm n3)]; exact ho, h.tr.btag, h.tr.stag, h.tr.mtag,
    fun x hx => (h.tr.nodes x hx).keep (fun _ _ => rfl) fun c o ho hm => by rw [H.ins_other _ _ (n4 _ c hm).2.2]; exact ho⟩, h2, h.out, h3⟩, h1⟩

/-- The map written over: just these nodes. -/
theorem In.setMap {u0 u : H} {fp : Nat → Option Tg} {b : Nat} {T : Tr} (h : In u0 u fp b T) {o : Obj} {g' : List (Int × Nd)} (hm : MapAt (u.ins T.m o) T.m (ptrs g')) (hg : ∀ x ∈ g', NdAt fp u x.1 x.2) : In u0 (u.ins T.m o) fp b { T with g := g' } ∧ Turn u fp (u.ins T.m o) fp := by
  obtain ⟨h1, h2, h3⟩ := h.write (c := T.m) (by rw [h.tr.mtag]; simp) o
  obtain ⟨n1, n2, n3, n4⟩ := h.ne_node
  exact ⟨⟨⟨by rw [H.ins_other _ _ (Ne.symm n2)]; exact h.tr.cell, by rw [H.ins_other _ _ n3]; exact h.tr.src, h.tr.stU, hm, h.tr.btag, h.tr.stag, h.tr.mtag,
    fun x hx => (hg x hx).keep (fun _ _ => rfl) fun c o ho hmm => by rw [H.ins_other _ _ (n4 _ c hmm).2.1]; exact ho⟩, h2, h.out, h3⟩, h1⟩

/-! ### what a tree means -/

def hitG (g : List (Int × Nd)) (q : List Int) (id : Int) : Hit := (id, match getN g id with
  | some n => sqTo n.v q n.v.length
  | none => 0)

def nbG (g : List (Int × Nd)) (lv : Nat) (id : Int) : List Int := match getN g id with
  | some n => n.kn.getD lv []
  | none => []

theorem hitG_id (g : List (Int × Nd)) (q : List Int) (id : Int) : (hitG g q id).1 = id := rfl

/-- What must be, so that one can go through it. -/
structure GOk (dim : Int) (g : List (Int × Nd)) : Prop where
  dm : 1 ≤ dim ∧ dim ≤ 64
  vec : ∀ x ∈ g, (x.2.v.length : Int) = dim ∧ vok x.2.v
  top : ∀ x ∈ g, x.2.top ≤ 30
  known : ∀ x ∈ g, ∀ l ∈ x.2.kn, ∀ i ∈ l, i ∈ g.map (·.1)
  ids : ∀ x ∈ g, 1 ≤ x.1 ∧ x.1 ≤ 1000000000
  small : g.length ≤ 513

theorem GOk.nb {dim : Int} {g : List (Int × Nd)} (h : GOk dim g) (lv : Nat) : ∀ k ∈ g.map (·.1), ∀ i ∈ nbG g lv k, i ∈ g.map (·.1) := by
  intro k hk i hi
  obtain ⟨n, hn⟩ := getN_some hk
  unfold nbG at hi
  rw [hn] at hi
  simp only at hi
  rcases Nat.lt_or_ge lv n.kn.length with hl | hl
  · rw [List.getD_eq_getElem?_getD, List.getElem?_eq_getElem hl] at hi
    exact h.known _ (getN_mem hn) _ (List.getElem_mem hl) i hi
  · rw [List.getD_eq_getElem?_getD, List.getElem?_eq_none hl] at hi
    cases hi

end Go.Proofs.YtpbelkpfljhjlaaGreatDoor

/- VcTree1 -/
namespace Go.Proofs.YtpbelkpfljhjlaaGreatDoor

theorem nodeTy : MapTy Tryz.prog 89 3 86 (.pointer none) := ⟨by kernel_rfl, by kernel_rfl, fun _ => by kernel_rfl⟩

theorem node_addr (p lv : Nat) : ((Addr.mk p 0 none).add 1).add (lv * 1) = ⟨p, 1 + lv, none⟩ := by rw [Addr.add_add', Addr.add_lit, Nat.mul_one, Nat.zero_add]

/-- What one needs of a tree to tell hits. -/
structure TrRd (u : H) (b : Nat) (T : Tr) : Prop where
  cell : u b = some (.cells (treeC T).toArray 91 (0, 0))
  map : MapAt u T.m (ptrs T.g)
  nodes : ∀ x ∈ T.g, u x.2.p = some (.cells (nodeC x.2).toArray 114 (0, 0)) ∧ Ints u x.2.sv x.2.v

theorem TrAt.rd_else {fp : Nat → Option Tg} {u u' : H} {b : Nat} {T : Tr} (h : TrAt fp u b T) (hu : ∀ c o, u c = some o → fp c ≠ none → (∀ i lv, fp c ≠ some (.arr i lv)) → u' c = some o) : TrRd u' b T where
  cell := hu _ _ h.cell (by rw [h.btag]; simp) (by rw [h.btag]; simp)
  map := h.map.else fun o ho => hu _ _ ho (by rw [h.mtag]; simp) (by rw [h.mtag]; simp)
  nodes x hx := by
    have hN := h.nodes x hx
    exact ⟨hu _ _ hN.cell (by rw [hN.tag]; simp) (by rw [hN.tag]; simp), Seg.else hN.vec fun g o hg ho => hu g o ho (by rw [hN.vtag g hg]; simp) (by rw [hN.vtag g hg]; simp)⟩

theorem TrAt.rd {fp : Nat → Option Tg} {u : H} {b : Nat} {T : Tr} (h : TrAt fp u b T) : TrRd u b T := h.rd_else fun _ _ ho _ _ => ho

theorem TrRd.mono {u u' : H} {b : Nat} {T : Tr} (h : TrRd u b T) (hu : u.le u') : TrRd u' b T :=
  ⟨hu _ _ h.cell, h.map.mono hu, fun x hx => ⟨hu _ _ (h.nodes x hx).1, (h.nodes x hx).2.mono hu⟩⟩

theorem rd_cells {u : H} {b : Nat} {T : Tr} (h : TrRd u b T) : u.cell? ⟨b, 0, none⟩ = some (.int .i64 T.dim) ∧ u.cell? ((Addr.mk b 0 none).add 1) = some (.int .i64 T.links) ∧
    u.cell? ((Addr.mk b 0 none).add 3) = some (.map (some T.m)) ∧ u.cell? ((Addr.mk b 0 none).add 4) = some (.int .i64 T.entry) := by
  have hb := h.cell
  refine ⟨?_, ?_, ?_, ?_⟩ <;> simp [H.cell?, Addr.add, hb, treeC]

theorem sem_node_rd {u : H} {b : Nat} {T : Tr} (h : TrRd u b T) {id : Int} (hid : id ∈ T.g.map (·.1)) {K : Option Addr → H → Prop}
    (hK : ∀ n, getN T.g id = some n → K (some ⟨n.p, 0, none⟩) u) : SemT Tryz.prog (Instr.lookup 89 (.map (some T.m)) (.int .i64 id) false) [.one .ptr] u K := by
  obtain ⟨n, hn⟩ := getN_some hid
  refine sem_get nodeTy h.map (ct := .ptr) (some ⟨n.p, 0, none⟩) ?_ (hK n hn)
  rw [getL_ptrs, hn]; rfl

/-- A node, looked up. -/
theorem sem_node {fp : Nat → Option Tg} {u : H} {b : Nat} {T : Tr} (h : TrAt fp u b T) {id : Int} (hid : id ∈ T.g.map (·.1)) {K : Option Addr → H → Prop}
    (hK : ∀ n, getN T.g id = some n → NdAt fp u id n → K (some ⟨n.p, 0, none⟩) u) : SemT Tryz.prog (Instr.lookup 89 (.map (some T.m)) (.int .i64 id) false) [.one .ptr] u K :=
  sem_node_rd h.rd hid fun n hn => hK n hn (h.node hn)

/-- A question to go by. -/
structure QAt (u : H) (dim : Int) (t : Sl) (q : List Int) : Prop where
  is : Ints u t q
  ok : vok q
  len : (q.length : Int) = dim

theorem QAt.mono {u u' : H} {dim : Int} {t : Sl} {q : List Int} (h : QAt u dim t q) (k : u.le u') : QAt u' dim t q := ⟨h.is.mono k, h.ok, h.len⟩

theorem spec.hit_rd {u : H} {b : Nat} {T : Tr} {q : List Int} {t : Sl} {id : Int} {K : Int → Int → Int → H → Prop} (h : TrRd u b T) (hg : GOk T.dim T.g) (hid : id ∈ T.g.map (·.1)) (ht : QAt u T.dim t q)
    (hK : K id (hiW (hitG T.g q id).2) (loW (hitG T.g q id).2) u) : C.hnsw_Tree__hit (some ⟨b, 0, none⟩) id t u K := by
  obtain ⟨_, _, c3, _⟩ := rd_cells h
  apply vc.hnsw_Tree__hit
  refine ⟨_, rfl, _, c3, sem_node_rd h hid fun n hn => ⟨_, rfl, n.sv, ?_, ?_⟩⟩
  · have := (h.nodes _ (getN_mem hn)).1
    simp only at this
    simp [H.cell?, this, nodeC]
  · have hv := hg.vec _ (getN_mem hn)
    refine spec.vec_Dist (h.nodes _ (getN_mem hn)).2 ht.is hv.2 ?_ ht.ok ?_ fun x y hx hy he => ?_
    · have := hg.dm; have := hv.1; simp only at this ⊢; omega
    · have := hv.1; have := ht.len; simp only at *; omega
    · have e : (hitG T.g q id).2 = wv x y := by rw [he]; simp [hitG, hn]
      rw [e, hi_wv hy, lo_wv hy] at hK
      exact hK

theorem spec.hnsw_Tree__hit {fp : Nat → Option Tg} {u : H} {b : Nat} {T : Tr} {q : List Int} {t : Sl} {id : Int} {K : Int → Int → Int → H → Prop} (h : TrAt fp u b T) (hg : GOk T.dim T.g) (hid : id ∈ T.g.map (·.1)) (ht : QAt u T.dim t q)
    (hK : K id (hiW (hitG T.g q id).2) (loW (hitG T.g q id).2) u) : C.hnsw_Tree__hit (some ⟨b, 0, none⟩) id t u K := spec.hit_rd h.rd hg hid ht hK

/-- How many a row may know. -/
def mostI (links lv : Int) : Int := if lv = 0 then 2 * links else links

theorem spec.hnsw_Tree__most {u : H} {b : Nat} {T : Tr} {lv : Int} {K : Int → H → Prop} (h : TrRd u b T) (hl : 1 ≤ T.links ∧ T.links ≤ 16) (hK : K (mostI T.links lv) u) : C.hnsw_Tree__most (some ⟨b, 0, none⟩) lv u K := by
  obtain ⟨_, c1, _⟩ := rd_cells h
  apply vc.hnsw_Tree__most
  unfold mostI at hK
  refine ⟨fun h0 => ⟨_, rfl, _, c1, ⟨by omega, by omega⟩, ?_⟩, fun h0 => ⟨_, rfl, _, c1, ?_⟩⟩
  · rw [if_pos h0] at hK; exact hK
  · rw [if_neg h0] at hK; exact hK

/-- A node's list of a level. -/
theorem known_cell {fp : Nat → Option Tg} {u : H} {id : Int} {n : Nd} (h : NdAt fp u id n) {lv : Nat} (hl : lv < 31) : ∃ s l, n.ks[lv]? = some s ∧ n.kn[lv]? = some l ∧ u.cell? (((Addr.mk n.p 0 none).add 1).add (lv * 1)) = some (.slice s.a s.n s.c) ∧
    OwnF H0 u 3 1 s (l.flatMap encI) ∧ ∀ g, s.blk = some g → fp g = some (.arr id lv) := by
  have h1 : lv < n.ks.length := by rw [h.kslen]; exact hl
  have h2 : lv < n.kn.length := by rw [h.knlen]; exact hl
  refine ⟨n.ks[lv], n.kn[lv], List.getElem?_eq_getElem h1, List.getElem?_eq_getElem h2, ?_, h.arr lv _ _ (List.getElem?_eq_getElem h1) (List.getElem?_eq_getElem h2)⟩
  rw [node_addr, node_cell h]
  exact nodeC_k (List.getElem?_eq_getElem h1)

theorem nbG_of {g : List (Int × Nd)} {id : Int} {n : Nd} (hn : getN g id = some n) {lv : Nat} {l : List Int} (hl : n.kn[lv]? = some l) : nbG g lv id = l := by
  unfold nbG
  rw [hn]
  simp only
  rw [List.getD_eq_getElem?_getD, hl]; rfl

theorem take_fold {α β : Type} (f : β → α → β) (l : List α) {i : Nat} {x : α} (h : l[i]? = some x) (b : β) : (l.take (i + 1)).foldl f b = f ((l.take i).foldl f b) x := by
  obtain ⟨hl, rfl⟩ := List.getElem?_eq_some_iff.1 h
  rw [List.take_succ_eq_append_getElem hl, List.foldl_append]
  rfl

theorem spec.hnsw_Tree__down {fp : Nat → Option Tg} {u : H} {b : Nat} {T : Tr} {q : List Int} {t : Sl} {at' lv : Int} {K : Int → H → Prop} (h : TrAt fp u b T) (hg : GOk T.dim T.g) (hid : at' ∈ T.g.map (·.1)) (ht : QAt u T.dim t q)
    (l0 : 0 ≤ lv) (l1 : lv < 31) (hK : K (downF (hitG T.g q) (nbG T.g lv.toNat) T.g.length at') u) : C.hnsw_Tree__down (some ⟨b, 0, none⟩) at' t lv u K := by
  obtain ⟨_, _, _, c3, _⟩ := tree_cells h
  have hlen : (T.g.map (·.1)).length = T.g.length := by simp
  apply vc.hnsw_Tree__down
  refine spec.hnsw_Tree__hit h hg hid ht ?_
  refine ⟨fun m x y z v => v = u ∧ ∃ (n : Nat) (best : Hit), x = best.1 ∧ y = hiW best.2 ∧ z = loW best.2 ∧ best = itP (hitG T.g q) (nbG T.g lv.toNat) n (hitG T.g q at') ∧ n + rank (hitG T.g q) (T.g.map (·.1)) best ≤ T.g.length ∧
      (m = false → pass (hitG T.g q) (nbG T.g lv.toNat) best = best),
    fun m x y z _ => rank (hitG T.g q) (T.g.map (·.1)) (x, wv y z) + (if m = true then 1 else 0),
    ⟨rfl, 0, hitG T.g q at', rfl, rfl, rfl, rfl, by have := rank_le (hitG T.g q) (T.g.map (·.1)) (hitG T.g q at'); omega, fun hm => by cases hm⟩, ?_⟩
  rintro m x y z v ⟨rfl, n, best, rfl, rfl, rfl, hbest, hn, hm⟩
  have hin := itP_in (hitG T.g q) (nbG T.g lv.toNat) (hitG_id T.g q) (b := hitG T.g q at') ⟨hid, rfl⟩ (hg.nb lv.toNat) n
  rw [← hbest] at hin
  refine ⟨fun hmt => ⟨_, rfl, _, c3, sem_node h hin.1 fun nd hnd hN => ⟨_, rfl, by decide, ⟨l0, l1⟩, ?_⟩⟩, fun hmf => ?_⟩
  · obtain ⟨s, l, hs1, hs2, hc, ho, _⟩ := known_cell hN (lv := lv.toNat) (by omega)
    refine ⟨s, hc, ?_⟩
    have hnb : nbG T.g lv.toNat best.1 = l := nbG_of hnd hs2
    have hsn := ho.ints.len
    refine ⟨fun m' i x y z v' => v' = v ∧ 0 ≤ i ∧ i ≤ l.length ∧ ∃ best' : Hit, x = best'.1 ∧ y = hiW best'.2 ∧ z = loW best'.2 ∧ best' = (l.take i.toNat).foldl (pass1 (hitG T.g q)) best ∧ m' = decide (best' ≠ best),
      fun _ i _ _ _ _ => l.length - i.toNat, ⟨rfl, by omega, by omega, best, rfl, rfl, rfl, rfl, by simp⟩, ?_⟩
    rintro m' i x y z v' ⟨rfl, i0, i1, best', rfl, rfl, rfl, hb', rfl⟩
    refine ⟨fun hil => ?_, fun hge => ?_⟩
    · have hsm := ho.ints.max
      obtain ⟨p, hp, hc2⟩ := ho.ints.at i0 hil
      refine ⟨p, hp, ⟨i0, hil⟩, _, hc2, ?_⟩
      have hli : i.toNat < l.length := by omega
      have hx : l[i.toNat]? = some (l.getD i.toNat 0) := by simp [hli]
      have hxm : l.getD i.toNat 0 ∈ T.g.map (·.1) := hg.nb lv.toNat best.1 hin.1 _ (by rw [hnb]; exact List.mem_of_getElem? hx)
      refine spec.hnsw_Tree__hit h hg hxm ht ?_
      have hf := take_fold (pass1 (hitG T.g q)) l hx best
      rw [← hb'] at hf
      refine spec.topk_Less (a := hitG T.g q (l.getD i.toNat 0)) (b := best') ?_
      have hbb : best' = best ∨ hlt best' best = true := by
        rcases fold_pass (hitG T.g q) (l.take i.toNat) best with h1 | ⟨h1, _⟩
        · exact .inl (hb'.trans h1)
        · exact .inr (hb' ▸ h1)
      refine ⟨fun hb => ⟨⟨by omega, by omega⟩, ⟨rfl, by omega, by omega, hitG T.g q (l.getD i.toNat 0), rfl, rfl, rfl, ?_, ?_⟩, by dsimp only; omega⟩,
        fun hb => ⟨⟨by omega, by omega⟩, ⟨rfl, by omega, by omega, best', rfl, rfl, rfl, ?_, rfl⟩, by dsimp only; omega⟩⟩
      · rw [show (i + 1).toNat = i.toNat + 1 by omega, hf, pass1, if_pos hb]
      · have : hlt (hitG T.g q (l.getD i.toNat 0)) best = true := by
          rcases hbb with h1 | h1
          · rw [← h1]; exact hb
          · exact hlt_lt_trans hb h1
        exact (decide_eq_true (hlt_ne this)).symm
      · rw [show (i + 1).toNat = i.toNat + 1 by omega, hf, pass1, if_neg (by simpa using hb)]
    · have hil : i.toNat = l.length := by
        have : ¬ i < (s.n : Int) := hge
        omega
      have hbe : best' = pass (hitG T.g q) (nbG T.g lv.toNat) best := by rw [hb', hil, List.take_length, pass, hnb]
      have hfp := fold_pass (hitG T.g q) l best
      have hbe2 : best' = l.foldl (pass1 (hitG T.g q)) best := by rw [hb', hil, List.take_length]
      rw [← hbe2] at hfp
      rw [hmt]
      by_cases hne : best' = best
      · refine ⟨⟨rfl, n, best', rfl, rfl, rfl, by rw [hne]; exact hbest, by rw [hne]; exact hn, fun _ => by rw [hne, ← hbe]; exact hne⟩, ?_⟩
        rw [hne]; simp
      · obtain ⟨h1, i', hi', e⟩ := hfp.resolve_left hne
        have him : i' ∈ T.g.map (·.1) := hg.nb lv.toNat best.1 hin.1 _ (by rw [hnb]; exact hi')
        have hr := rank_lt (hitG T.g q) him (b := best) (by rw [← e]; exact h1)
        rw [← e] at hr
        refine ⟨⟨rfl, n + 1, best', rfl, rfl, rfl, by rw [hbe, hbest]; rfl, by omega, fun hf => ?_⟩, ?_⟩
        · simp [hne] at hf
        · simp only [wv_hl]
          have : decide (best' ≠ best) = true := by simp [hne]
          rw [this]
          simpa using hr
  · have hp := hm hmf
    have hfix := itP_fix (hitG T.g q) (nbG T.g lv.toNat) (n := n) (b := hitG T.g q at') (by rw [← hbest]; exact hp) (T.g.length - n)
    have e : downF (hitG T.g q) (nbG T.g lv.toNat) T.g.length at' = best.1 := by
      unfold downF
      rw [show T.g.length = n + (T.g.length - n) by omega, hfix, hbest]
    rw [e] at hK
    exact hK

/-- Where a search begins: the entry, or a nearer one. -/
def startF (g : List (Int × Nd)) (q : List Int) (entry : Int) (lv : Nat) : Int :=
  descF (hitG g q) (fun l => nbG g l) g.length lv ((match getN g entry with | some n => n.top | none => 0) - lv) entry

theorem startF_in {dim : Int} {g : List (Int × Nd)} (hg : GOk dim g) {q : List Int} {entry : Int} (he : entry ∈ g.map (·.1)) (lv : Nat) : startF g q entry lv ∈ g.map (·.1) :=
  descF_in (hitG_id g q) (fun l => hg.nb l) _ _ he

theorem spec.hnsw_Tree__start {fp : Nat → Option Tg} {u : H} {b : Nat} {T : Tr} {q : List Int} {t : Sl} {lv : Int} {K : Int → H → Prop} (h : TrAt fp u b T) (hg : GOk T.dim T.g) (hid : T.entry ∈ T.g.map (·.1)) (ht : QAt u T.dim t q)
    (l0 : 0 ≤ lv) (hK : K (startF T.g q T.entry lv.toNat) u) : C.hnsw_Tree__start (some ⟨b, 0, none⟩) t lv u K := by
  obtain ⟨_, _, _, c3, c4⟩ := tree_cells h
  apply vc.hnsw_Tree__start
  refine ⟨_, rfl, _, c4, _, rfl, _, c3, sem_node h hid fun n hn hN => ⟨_, rfl, n.top, ?_, ?_⟩⟩
  · rw [Addr.add_lit, Nat.zero_add, node_cell hN]; exact nodeC_top hN.kslen
  have htop := hg.top _ (getN_mem hn)
  simp only at htop
  unfold startF at hK
  rw [hn] at hK
  simp only at hK
  refine ⟨fun x l v => v = u ∧ x ∈ T.g.map (·.1) ∧ ∃ c : Nat, (lv < l → l = lv + c) ∧ l ≤ 30 ∧ (¬ lv < l → c = 0) ∧ descF (hitG T.g q) (fun l => nbG T.g l) T.g.length lv.toNat c x = descF (hitG T.g q) (fun l => nbG T.g l) T.g.length lv.toNat (n.top - lv.toNat) T.entry,
    fun _ l _ => (l - lv).toNat, ⟨rfl, hid, n.top - lv.toNat, by omega, by omega, by omega, rfl⟩, ?_⟩
  rintro x l v ⟨rfl, hx, c, hc1, hc2, hc3, hd⟩
  refine ⟨fun hl1 => ?_, fun hge => ?_⟩
  · have hl := hc1 hl1
    refine spec.hnsw_Tree__down h hg hx ht (by omega) (by omega) ⟨⟨by omega, by omega⟩, ⟨rfl, downF_in (hitG T.g q) _ (hitG_id T.g q) hx (hg.nb _), c - 1, by omega, by omega, by omega, ?_⟩, by dsimp only; omega⟩
    rw [← hd]
    obtain ⟨c', rfl⟩ : ∃ c', c = c' + 1 := ⟨c - 1, by omega⟩
    simp only [descF, Nat.add_sub_cancel]
    rw [show l.toNat = lv.toNat + c' + 1 by omega]
  · rw [hc3 hge] at hd
    simp only [descF] at hd
    rw [← hd] at hK
    exact hK

end Go.Proofs.YtpbelkpfljhjlaaGreatDoor

/- VcNear -/
namespace Go.Proofs.YtpbelkpfljhjlaaGreatDoor

theorem nLen : methB Tryz.prog 141 "Len" 86 false = true := by kernel_rfl
theorem nLess : methB Tryz.prog 141 "Less" 225 false = true := by kernel_rfl
theorem nSwap : methB Tryz.prog 141 "Swap" 226 false = true := by kernel_rfl
theorem nPush : methB Tryz.prog 141 "Push" 228 true = true := by kernel_rfl
theorem nPop : methB Tryz.prog 141 "Pop" 227 true = true := by kernel_rfl
theorem shNear : shOf Tryz.prog 139 = some (.one .slice) := by kernel_rfl
theorem undNear : Tryz.prog.underlying 141 = some (.pointer 139) := by kernel_rfl
theorem tNear : elemT Tryz.prog 139 = some (66, 3, 24, [.int .i64 0, .int .u64 0, .int .u64 0]) := by kernel_rfl
theorem build_near (x y z : Int) : buildOf Tryz.prog 139 1 #[(0, .agg #[.int .i64 x, .int .u64 y, .int .u64 z])] = some (66, [.int .i64 x, .int .u64 y, .int .u64 z]) := by kernel_rfl
theorem nbLen : hasBody Tryz.prog 86 = true := by kernel_rfl
theorem nbLess : hasBody Tryz.prog 225 = true := by kernel_rfl
theorem nbSwap : hasBody Tryz.prog 226 = true := by kernel_rfl
theorem nbPush : hasBody Tryz.prog 228 = true := by kernel_rfl
theorem nbPop : hasBody Tryz.prog 227 = true := by kernel_rfl

/-- A slice of one's own without its last ones. -/
theorem OwnF.front {u0 u : H} {e k : Nat} {s : Sl} {xs : List Value} (h : OwnF u0 u e k s xs) {m : Nat} (hm : m ≤ s.n) : OwnF u0 u e k (s.part 0 m s.c k) (xs.take (m * k)) ∧ (s.part 0 m s.c k).blk = s.blk ∧ (s.part 0 m s.c k).n = m := by
  have ha : (s.part 0 m s.c k).a = s.a := by
    unfold Sl.part
    simp only
    split
    · rfl
    · rw [Nat.zero_mul]; cases s.a <;> simp [Addr.add_zero']
  have hb : (s.part 0 m s.c k).blk = s.blk := by unfold Sl.blk; rw [ha]
  refine ⟨⟨⟨?_, ?_⟩, h.le, fun g hg => h.fresh g (hb ▸ hg)⟩, hb, rfl⟩
  · show _ = (m - 0) * k
    rw [List.length_take, h.own.len, Nat.sub_zero, Nat.min_eq_left (Nat.mul_le_mul_right _ hm)]
  · rcases h.own.is with h0 | ⟨g, cur, e1, e2, e3, e4, e5, e6⟩
    · left
      subst h0
      have : m = 0 := by simpa using hm
      subst this
      simp [Sl.part]
    · right
      refine ⟨g, cur, ha.trans e1, e2, ?_, ?_, ?_, ?_⟩
      · show m - 0 ≤ s.c - 0; omega
      · show s.c - 0 ≤ _; omega
      · show cur.size = (s.c - 0) * k; rw [Nat.sub_zero]; exact e5
      · show cur.toList.take ((m - 0) * k) = _
        rw [Nat.sub_zero, ← e6, List.take_take, Nat.min_eq_left (Nat.mul_le_mul_right _ hm)]

/-- A heap of hits in block n. -/
structure NearSt (u0 : H) (n : Nat) (u : H) (l : List Hit) : Prop where
  ex : ∃ s : Sl, u n = some (.cells #[.slice s.a s.n s.c] 139 (0, 0)) ∧ OwnF u0 u 66 3 s (l.flatMap encH) ∧ s.blk ≠ some n
  out : u0 n = none
  small : l.length ≤ 1000000

def nearV (n : Nat) : Value := .iface 141 (.pointer (some (Addr.mk n 0 none)))

theorem near_val {u : H} {n : Nat} {s : Sl} {name : String} {f : FuncId} (hm : methB Tryz.prog 141 name f false = true) (hn : u n = some (.cells #[.slice s.a s.n s.c] 139 (0, 0))) (w : World) (hw : Sub u w) :
    (method (Tryz.prog.types.size + Made.depth) 141 (.pointer (some (Addr.mk n 0 none))) name).run Tryz.prog w = .ok (f, .slice s.a s.n s.c) w := by
  obtain ⟨i, m, h1, h2, h3, h4⟩ := methB_spec hm
  obtain ⟨k', hk'⟩ := fuelOk
  rw [hk']
  refine run_method_val h1 h2 h3 h4 undNear ?_
  have hc : u.cell? (Addr.mk n 0 none) = some (.slice s.a s.n s.c) := H.cell?_of hn 0
  have hcw := hw.cell hc
  exact loadVar_run shNear (Addr.mk n 0 none) (vs := [.slice s.a s.n s.c]) rfl (run_loadCellsFrom_list _ _ _ _ _ rfl (fun j v hj => by
    cases j with
    | zero => simp at hj; subst hj; exact hcw
    | succ j => simp at hj)) (fun c hc => ⟨_, rfl, hcw⟩)

theorem spec.hnsw_near__Less {s : Sl} {l : List Hit} {i j : Int} {u : H} {K : Bool → H → Prop} (hs : Hts u s l) (i0 : 0 ≤ i) (i1 : i < l.length) (j0 : 0 ≤ j) (j1 : j < l.length)
    (h : K (hlt (l.getD i.toNat default) (l.getD j.toNat default)) u) : C.hnsw_near__Less s i j u K := by
  have hn := hs.len
  apply vc.hnsw_near__Less
  obtain ⟨p, hp, x, hx, c0, c1, c2⟩ := hs.at j0 (show j < (s.n : Int) by omega)
  obtain ⟨q, hq, y, hy, d0, d1, d2⟩ := hs.at i0 (show i < (s.n : Int) by omega)
  rw [getD_of hx, getD_of hy] at h
  exact ⟨q, hq, ⟨i0, by omega⟩, p, hp, ⟨j0, by omega⟩, _, d0, _, d1, _, d2, _, c0, _, c1, _, c2, spec.topk_Less h⟩

theorem spec.hnsw_near__Swap {u0 u : H} {s : Sl} {l : List Hit} {i j : Int} {K : H → Prop} (ho : OwnF u0 u 66 3 s (l.flatMap encH)) (i0 : 0 ≤ i) (i1 : i < l.length) (j0 : 0 ≤ j) (j1 : j < l.length)
    (h : ∀ u', OwnF u0 u' 66 3 s ((swapL l i.toNat j.toNat).flatMap encH) → Else u u' s → K u') : C.hnsw_near__Swap s i j u K := by
  have hs := ho.hts
  have hn := hs.len
  apply vc.hnsw_near__Swap
  obtain ⟨p, hp, x, hx, c0, c1, c2⟩ := hs.at j0 (show j < (s.n : Int) by omega)
  obtain ⟨q, hq, y, hy, d0, d1, d2⟩ := hs.at i0 (show i < (s.n : Int) by omega)
  refine ⟨p, hp, ⟨j0, by omega⟩, q, hq, ⟨i0, by omega⟩, _, c0, _, c1, _, c2, _, d0, _, d1, _, d2, q, hq, ⟨i0, by omega⟩, ?_⟩
  refine OwnF.store (enc := encH) encH_len ho (by decide) (i := i.toNat) (by omega) (y := x) (encH_one x) hq fun u1 ho1 he1 _ => ⟨p, hp, ⟨j0, by omega⟩, ?_⟩
  refine OwnF.store (enc := encH) encH_len ho1 (by decide) (i := j.toNat) (by simp; omega) (y := y) (encH_one y) hp fun u2 ho2 he2 _ => h u2 ?_ (fun b o hb hne => he2 b o (he1 b o hb hne) hne)
  have hil : i.toNat < l.length := by omega
  have hjl : j.toNat < l.length := by omega
  have ex : l[j.toNat] = x := by rw [List.getElem?_eq_getElem hjl] at hx; exact Option.some.inj hx
  have ey : l[i.toNat] = y := by rw [List.getElem?_eq_getElem hil] at hy; exact Option.some.inj hy
  rw [swapL_eq hil hjl, ex, ey]
  exact ho2

theorem NearSt.set {u0 u u' : H} {n : Nat} {l l' : List Hit} {s : Sl} (h : NearSt u0 n u l) (hn : u n = some (.cells #[.slice s.a s.n s.c] 139 (0, 0))) (hs : s.blk ≠ some n)
    (ho : OwnF u0 u' 66 3 s (l'.flatMap encH)) (he : Else u u' s) (hl : l'.length = l.length) : NearSt u0 n u' l' :=
  ⟨⟨s, he _ _ hn hs, ho, hs⟩, h.out, by rw [hl]; exact h.small⟩

theorem nearHeap (u0 : H) (n : Nat) : HeapI (nearV n) (NearSt u0 n) hlt where
  len := by
    intro u l K h hK
    obtain ⟨s, hn, ho, _⟩ := h.ex
    refine ⟨_, _, _, _, rfl, fun w hw => near_val nLen hn w hw, bodyOf nbLen, vc.hnsw_near__Len s u K ?_⟩
    rw [ho.hts.len]; exact hK
  less := by
    intro u l i j K h i0 i1 j0 j1 hK
    obtain ⟨s, hn, ho, _⟩ := h.ex
    exact ⟨_, _, _, _, rfl, fun w hw => near_val nLess hn w hw, bodyOf nbLess, spec.hnsw_near__Less ho.hts i0 i1 j0 j1 hK⟩
  swap := by
    intro u l i j K h i0 i1 j0 j1 hK
    obtain ⟨s, hn, ho, hne⟩ := h.ex
    exact ⟨_, _, _, _, rfl, fun w hw => near_val nSwap hn w hw, bodyOf nbSwap, spec.hnsw_near__Swap ho i0 i1 j0 j1 fun u' ho' he => hK u' (h.set hn hne ho' he (swapL_len _ _ _))⟩
  small := fun h => by have := h.small; omega

theorem nearLt : LtOk hlt where
  asymm := fun _ _ h => hlt_asymm h
  trans := fun _ _ _ h k => hlt_le_trans h k

theorem assertHit' (h : Hit) (w : World) : (Instr.typeAssert (.iface 66 (.agg #[.int .i64 h.1, .int .u64 (hiW h.2), .int .u64 (loW h.2)])) 20 66 false).run Tryz.prog w =
    .ok (.agg #[.int .i64 h.1, .int .u64 (hiW h.2), .int .u64 (loW h.2)]) w := by kernel_rfl

/-- A hit as an interface's value. -/
def hitI (h : Hit) : Value := .iface 66 (.agg #[.int .i64 h.1, .int .u64 (hiW h.2), .int .u64 (loW h.2)])

theorem sem_assertHit {h : Hit} {u : H} {K : Int → Int → Int → H → Prop} (hK : K h.1 (hiW h.2) (loW h.2) u) : SemT Tryz.prog (Instr.typeAssert (hitI h) 20 66 false) [.agg [.int .i64, .int .u64, .int .u64]] u K :=
  SemT.pure [.int .i64 h.1, .int .u64 (hiW h.2), .int .u64 (loW h.2)] (fun w _ => assertHit' h w) (.cons (t := .int .i64) _ (.cons (t := .int .u64) _ (.cons (t := .int .u64) _ .nil))) hK

theorem near_push {u0 u : H} {n : Nat} {l : List Hit} {x : Hit} {K : H → Prop} (h : NearSt u0 n u l) (hl : l.length < 1000000) (hK : ∀ u', NearSt u0 n u' (l ++ [x]) → K u') :
    ClI Tryz.prog (nearV n) "Push" #[hitI x] [] u K := by
  obtain ⟨s, hn, ho, hne⟩ := h.ex
  obtain ⟨i, m, h1, h2, h3, h4⟩ := methB_spec nPush
  obtain ⟨k', hk'⟩ := fuelOk
  refine ⟨_, _, _, _, rfl, fun w _ => by rw [hk']; exact run_method_ptr h1 h2 h3 h4 undNear, bodyOf nbPush, ?_⟩
  refine vc.hnsw_near__Push (some (Addr.mk n 0 none)) _ u K ?_
  refine ⟨_, rfl, s, H.cell?_of hn 0, sem_assertHit ⟨H.le.refl u, ?_⟩⟩
  have hp := sem_push (P := Tryz.prog) (K := fun s8 u9 => ∃ r10 : Addr, some (Addr.mk n 0 none) = some r10 ∧ H.St u9 r10 [.slice s8.a s8.n s8.c] K) tNear (build_near x.1 (hiW x.2) (loW x.2)) (by decide) rfl (by simp [Value.oneCell']) ho (by have := ho.hts.len; omega) (by have := ho.hts.len; omega) fun s' u' ho' hn' he hblk _ => ⟨_, rfl, ?_⟩
  · exact hp
  · have hn2 := he _ _ hn hne
    have hne' : s'.blk ≠ some n := fun e => by
      rcases hblk n e with h | h
      · exact hne h
      · rw [hn] at h; cases h
    refine ⟨_, _, hn2, rfl, by simp, by simp [Value.oneCell'], hK _ ⟨⟨s', H.ins_same _ _ _, ⟨?_, ?_, ho'.fresh⟩, hne'⟩, h.out, by simp; omega⟩⟩
    · rw [flat_push] at ho'
      exact ho'.own.le fun b o hb hub => by rw [H.ins_other _ _ (fun e => hne' (by rw [hb, e]))]; exact hub
    · intro b o hb
      rw [H.ins_other _ _ (fun e => by rw [e, h.out] at hb; cases hb)]
      exact ho'.le b o hb

theorem near_pop {u0 u : H} {n : Nat} {l : List Hit} {K : Value → H → Prop} (h : NearSt u0 n u l) (hl : 0 < l.length) (hK : ∀ u', NearSt u0 n u' l.dropLast → K (hitI (l.getD (l.length - 1) default)) u') :
    ClI Tryz.prog (nearV n) "Pop" #[] [.one .val] u K := by
  obtain ⟨s, hn, ho, hne⟩ := h.ex
  obtain ⟨i, m, h1, h2, h3, h4⟩ := methB_spec nPop
  obtain ⟨k', hk'⟩ := fuelOk
  refine ⟨_, _, _, _, rfl, fun w _ => by rw [hk']; exact run_method_ptr h1 h2 h3 h4 undNear, bodyOf nbPop, ?_⟩
  refine vc.hnsw_near__Pop (some (Addr.mk n 0 none)) u K ?_
  have hsn := ho.hts.len
  have hc : u.cell? (Addr.mk n 0 none) = some (.slice s.a s.n s.c) := H.cell?_of hn 0
  have hsm := h.small
  obtain ⟨p, hp, x, hx, c0, c1, c2⟩ := ho.hts.at (x := (s.n : Int) - 1) (by omega) (by omega)
  have hxl : l.getD (l.length - 1) default = x := by
    rw [show ((s.n : Int) - 1).toNat = l.length - 1 by omega] at hx
    exact getD_of hx
  intro K0 hK0
  refine ⟨_, rfl, _, rfl, s, hc, s, hc, ⟨by omega, by omega⟩, p, hp, ⟨by omega, by omega⟩, _, c0, _, c1, _, c2, fun m hm => ⟨H.le_ins _ hm, ?_⟩⟩
  have hmn : m ≠ n := fun e => by rw [e, hn] at hm; cases hm
  refine ⟨_, _, H.ins_same _ _ _, rfl, by simp, by simp [Value.oneCell'], hK0 _ _ ⟨_, rfl, _, rfl, s, ?_, s, ?_, ⟨by omega, by omega⟩, ?_⟩⟩
  · simp only [H.cell?, H.ins_other _ _ (Ne.symm hmn)]; simpa [H.cell?] using hc
  · simp only [H.cell?, H.ins_other _ _ (Ne.symm hmn)]; simpa [H.cell?] using hc
  have hcap : s.n ≤ s.c := (Seg.cap ho.own.seg)
  obtain ⟨hf, hfb, hfn⟩ := ho.front (m := s.n - 1) (by omega)
  refine sem_slice (P := Tryz.prog) tNear (l := 0) (h := s.n - 1) (m := s.c) (.inl ⟨rfl, rfl⟩) (.inr ?_) (.inl ⟨rfl, rfl⟩) (by omega) (by omega) (Nat.le_refl _) hcap ⟨_, rfl, ?_⟩
  · rw [show ((s.n : Int) - 1) = ((s.n - 1 : Nat) : Int) by omega]
  refine ⟨_, _, by simp only []; rw [H.ins_other _ _ (Ne.symm hmn), H.ins_other _ _ (Ne.symm hmn)]; exact hn, rfl, by simp, by simp [Value.oneCell'], ?_⟩
  have hcm : ∀ (j : Nat) v, ([.int .i64 x.1, .int .u64 (hiW x.2), .int .u64 (loW x.2)] : List Value)[j]? = some v → H.cell? ((((u.ins m (.cells #[.int .i64 0, .int .u64 0, .int .u64 0] 66 (0, 0))).ins m (.cells (wr #[.int .i64 0, .int .u64 0, .int .u64 0] 0 [.int .i64 x.1, .int .u64 (hiW x.2), .int .u64 (loW x.2)]) 66 (0, 0))).ins n
      (.cells (wr #[.slice s.a s.n s.c] 0 [.slice (s.part 0 (s.n - 1) s.c 3).a (s.part 0 (s.n - 1) s.c 3).n (s.part 0 (s.n - 1) s.c 3).c]) 139 (0, 0)))) ((Addr.mk m 0 none).add j) = some v := by
    intro j v hj
    simp only [H.cell?, Addr.add_lit, Nat.zero_add, H.ins_other _ _ hmn, H.ins_same]
    rcases j with _ | _ | _ | j
    · simpa [wr] using hj
    · simpa [wr] using hj
    · simpa [wr] using hj
    · simp at hj
  have d0 := hcm 0 _ rfl
  have d1 := hcm 1 _ rfl
  have d2 := hcm 2 _ rfl
  rw [Addr.add_zero'] at d0
  refine ⟨_, d0, _, d1, _, d2, ?_⟩
  have e : hitI x = hitI (l.getD (l.length - 1) default) := by rw [hxl]
  show K (hitI x) _
  rw [e]
  have hxs : (l.flatMap encH).take ((s.n - 1) * 3) = l.dropLast.flatMap encH := by
    rw [flat_take encH_len, hsn, List.dropLast_eq_take]
  rw [hxs] at hf
  have hbn : (s.part 0 (s.n - 1) s.c 3).blk ≠ some n := by rw [hfb]; exact hne
  refine hK _ ⟨⟨_, H.ins_same _ _ _, ⟨?_, ?_, hf.fresh⟩, hbn⟩, h.out, by simp; omega⟩
  · refine hf.own.le fun b o hb hub => ?_
    rw [H.ins_other _ _ (fun e => hbn (by rw [hb, e])), H.ins_other _ _ (fun e => by rw [e, hm] at hub; cases hub), H.ins_other _ _ (fun e => by rw [e, hm] at hub; cases hub)]
    exact hub
  · intro b o hb
    have hbu := hf.le b o hb
    rw [H.ins_other _ _ (fun e => by rw [e, h.out] at hb; cases hb), H.ins_other _ _ (fun e => by rw [e, hm] at hbu; cases hbu), H.ins_other _ _ (fun e => by rw [e, hm] at hbu; cases hbu)]
    exact hbu

theorem spec.heap_Pop {α : Type} [Inhabited α] {recv : Value} {St : H → List α → Prop} {lt : α → α → Bool} (I : HeapI recv St lt) (L : LtOk lt) {V : α → Value} {u : H} {l : List α} {K : Value → H → Prop} (hs : St u l) (hh : Hp lt l.length l) (hne : 0 < l.length)
    (hpop : ∀ {u' : H} {l' : List α} {K : Value → H → Prop}, St u' l' → 0 < l'.length → (∀ u'', St u'' l'.dropLast → K (V (l'.getD (l'.length - 1) default)) u'') → ClI Tryz.prog recv "Pop" #[] [.one .val] u' K)
    (hK : ∀ u' l' x, St u' l' → (x :: l').Perm l → Hp lt l'.length l' → (∀ y ∈ l', lt y x = false) → K (V x) u') : C.heap_Pop recv u K := by
  apply vc.heap_Pop
  have hsm := I.small hs
  refine I.len hs ⟨⟨by omega, by omega⟩, I.swap hs (by omega) (by omega) (by omega) (by omega) fun u1 hs1 => ?_⟩
  obtain ⟨n, hn⟩ : ∃ n, l.length = n + 1 := ⟨l.length - 1, by omega⟩
  have e1 : (((l.length : Int) - 1).toNat) = n := by omega
  rw [e1] at hs1
  have h0 : (0 : Int).toNat = 0 := rfl
  rw [h0] at hs1
  have hl1 : (swapL l 0 n).length = n + 1 := by rw [swapL_len, hn]
  refine spec.heap_down I L hs1 (by omega) (by omega) (by
    rw [e1]
    refine ⟨by omega, fun i i0 i1 i2 => ?_, fun i i0 i1 i2 h => by simp at h⟩
    have i2' : pa i ≠ 0 := i2
    rw [swapL_getD (by omega) (by omega) (by omega), swapL_getD (by omega) (by omega) (by unfold pa; omega)]
    rw [if_neg (by omega), if_neg (by omega), if_neg (by unfold pa; omega), if_neg i2']
    exact hh i i0 (by omega)) (fun b u2 l2 hs2 hp2 hh2 hk2 => ?_) (.inr (by omega))
  rw [e1] at hh2
  have hl2 : l2.length = n + 1 := by rw [hp2.length_eq, hl1]
  have hx : l2.getD (l2.length - 1) default = l.getD 0 default := by
    have := hk2 n (by omega)
    rw [List.getD_eq_getElem?_getD, hl2, Nat.add_sub_cancel, this, ← List.getD_eq_getElem?_getD, swapL_getD (by omega) (by omega) (by omega)]
    split
    · rfl
    · rename_i h; exact absurd rfl h
  refine hpop hs2 (by omega) fun u3 hs3 => ?_
  rw [hx]
  have hlast : l2.dropLast ++ [l.getD 0 default] = l2 := by
    rw [← hx]
    have hne2 : l2 ≠ [] := fun e => by rw [e] at hl2; simp at hl2
    have := List.dropLast_concat_getLast hne2
    rw [List.getLast_eq_getElem] at this
    rw [List.getD_eq_getElem?_getD, List.getElem?_eq_getElem (by omega)]
    exact this
  have hperm : (l.getD 0 default :: l2.dropLast).Perm l := by
    refine List.Perm.trans ?_ (hp2.trans (swapL_perm (by omega) (by omega)))
    rw [← hlast, List.dropLast_concat]
    exact (List.perm_append_singleton _ _).symm
  refine hK _ _ _ hs3 hperm (fun i i0 i1 => ?_) fun y hy => ?_
  · have hdl : l2.dropLast.length = n := by simp [hl2]
    have g : ∀ k, k < n → l2.dropLast.getD k default = l2.getD k default := fun k hk => by
      rw [List.getD_eq_getElem?_getD, List.getD_eq_getElem?_getD, List.getElem?_dropLast, if_pos (by omega)]
    rw [g i (by omega), g _ (by unfold pa; omega)]
    exact hh2 i i0 (by omega)
  · have hyl : y ∈ l := hperm.mem_iff.1 (List.mem_cons_of_mem _ hy)
    obtain ⟨i, hi, rfl⟩ := List.mem_iff_getElem.1 hyl
    have := hh.root L i hi
    rw [List.getD_eq_getElem?_getD, List.getElem?_eq_getElem hi] at this
    exact this

end Go.Proofs.YtpbelkpfljhjlaaGreatDoor

/- VcFrom -/
namespace Go.Proofs.YtpbelkpfljhjlaaGreatDoor

theorem NearSt.remap {v0 v v' : H} {M n : Nat} {o o' : Obj} {L : List Hit} (h : NearSt (v0.ins M o) n v L) (_h0 : v0 M = none) (ho : v' M = some o') (he : ∀ g x, v g = some x → g ≠ M → v' g = some x) : NearSt (v0.ins M o') n v' L := by
  obtain ⟨s, h1, h2, h3⟩ := h.ex
  have hnM : n ≠ M := fun e => by have := h.out; rw [e, H.ins_same] at this; cases this
  have hf : ∀ g, (v0.ins M o) g = none → (v0.ins M o') g = none := fun g hg => by
    have : g ≠ M := fun e => by rw [e, H.ins_same] at hg; cases hg
    rw [H.ins_other _ _ this] at hg ⊢; exact hg
  refine ⟨⟨s, he _ _ h1 hnM, ⟨h2.own.le fun b x hb hu => he b x hu fun e => ?_, fun b x hb => ?_, fun g hg => hf g (h2.fresh g hg)⟩, h3⟩, hf n h.out, h.small⟩
  · have := h2.fresh b hb
    rw [e, H.ins_same] at this; cases this
  · unfold H.ins at hb
    split at hb
    · rename_i e; rw [e]; cases hb; exact ho
    · rename_i e
      have := h2.le b x (by rw [H.ins_other _ _ e]; exact hb)
      exact he b x this e

theorem NearSt.framed {v0 v v0' v' : H} {M n : Nat} {o : Obj} {L : List Hit} (h : NearSt (v0.ins M o) n v L) (h0 : v0 M = none) (hf : Framed v0 v v0' v') : NearSt (v0'.ins M o) n v' L ∧ v0' M = none := by
  obtain ⟨s, h1, h2, h3⟩ := h.ex
  have hM := h2.le M o (H.ins_same _ _ _)
  obtain ⟨hM0, hM1⟩ := hf.out M o h0 hM
  have hnM : n ≠ M := fun e => by have := h.out; rw [e, H.ins_same] at this; cases this
  have hn0 : v0 n = none := by have := h.out; rw [H.ins_other _ _ hnM] at this; exact this
  obtain ⟨hn1, hn2⟩ := hf.out n _ hn0 h1
  have hb : ∀ g, s.blk = some g → ∀ x, v g = some x → v0' g = none ∧ v' g = some x ∧ g ≠ M := fun g hg x hx => by
    have hfr := h2.fresh g hg
    have hgM : g ≠ M := fun e => by rw [e, H.ins_same] at hfr; cases hfr
    rw [H.ins_other _ _ hgM] at hfr
    exact ⟨(hf.out g x hfr hx).1, (hf.out g x hfr hx).2, hgM⟩
  refine ⟨⟨⟨s, hn2, ⟨h2.own.le fun b x hbl hu => (hb b hbl x hu).2.1, fun b x hx => ?_, fun g hg => ?_⟩, h3⟩, by rw [H.ins_other _ _ hnM]; exact hn1, h.small⟩, hM0⟩
  · unfold H.ins at hx
    split at hx
    · rename_i e; rw [e]; cases hx; exact hM1
    · exact hf.le b x hx
  · have hk := own_known h2 hg
    obtain ⟨x, hx⟩ := Option.ne_none_iff_exists'.1 hk
    obtain ⟨h5, _, h6⟩ := hb g hg x hx
    rw [H.ins_other _ _ h6]; exact h5

theorem meetF_neg {ht : Int → Hit} {s : List Int × List Hit} {i : Int} (h : i ∉ s.1) : meetF ht s i = (s.1 ++ [i], insH (ht i) s.2) := if_neg h
theorem meetF_pos {ht : Int → Hit} {s : List Int × List Hit} {i : Int} (h : i ∈ s.1) : meetF ht s i = s := if_pos h

/-- Those that are seen from a row on, the nearest first. -/
def walkF (g : List (Int × Nd)) (q : List Int) (lv : Nat) (at' : Int) : List Int := expl (hitG g q) (nbG g lv) g.length [at'] [hitG g q at']

def hitV' (h : Hit) : Value := .agg #[.int .i64 h.1, .int .u64 (hiW h.2), .int .u64 (loW h.2)]

/-- What holds at each round: so many were seen; n: what is left to do at most. -/
structure FromI (T : Tr) (q : List Int) (lv : Nat) (W : List Int) (J : Nat → H → Prop) (M n9 : Nat) (n : Nat) (v : H) : Prop where
  ex : ∃ (v0 : H) (o : Obj) (i : Nat) (met : List Int) (Ls L : List Hit), J i v0 ∧ v0 M = none ∧ SetOf (v0.ins M o) M met ∧ NearSt (v0.ins M o) n9 v L ∧ Hp hlt L.length L ∧ L.Perm Ls ∧ Met (hitG T.g q) (T.g.map (·.1)) (met, Ls) ∧
    due T.g.length (met, Ls) ≤ n ∧ W.drop i = expl (hitG T.g q) (nbG T.g lv) n met Ls ∧ i ≤ W.length

theorem spec.hnsw_Tree__from {fp : Nat → Option Tg} {ub u : H} {b : Nat} {T : Tr} {q : List Int} {t : Sl} {at' lv : Int} {see : Value} {K : H → Prop} (hub : ub.le u) (h : TrAt fp ub b T) (hg : GOk T.dim T.g) (hid : at' ∈ T.g.map (·.1)) (ht : QAt ub T.dim t q)
    (l0 : 0 ≤ lv) (l1 : lv < 31) (J : Nat → H → Prop) (E : H → Prop) (hJ : ∀ i v, J i v → ub.le v)
    (hsee : ∀ i x v (K : Bool → H → Prop), (walkF T.g q lv.toNat at')[i]? = some x → J i v → (∀ v', J (i + 1) v' → K true v') → (∀ v', E v' → K false v') → ClY Tryz.prog see #[hitV' (hitG T.g q x)] [.one .bool] v K)
    (h0 : J 0 u) (hK1 : ∀ v, J (walkF T.g q lv.toNat at').length v → K v) (hK2 : ∀ v, E v → K v) : C.hnsw_Tree__from (some ⟨b, 0, none⟩) at' t lv see u K := by
  have hsmall := hg.small
  have hlen : (T.g.map (·.1)).length = T.g.length := by simp
  refine ClT.weaken (ss := []) ?_
  apply vc.hnsw_Tree__from
  refine sem_makeMap fun M hM hset => ?_
  refine sem_mapAdd setTy hset (by simp) fun u2 hset2 hkeep2 hnone2 => ?_
  have hu2 : u.le u2 := fun c o hc => hkeep2 c o (H.le_ins _ hM c o hc) fun e => by rw [e, hM] at hc; cases hc
  obtain ⟨o2, clk2, hM2, _⟩ := hset2
  refine spec.hnsw_Tree__hit (h.mono (hub.trans hu2)) hg hid (ht.mono (hub.trans hu2)) ?_
  refine sem_build (build_near at' _ _) fun g7 hg7 n9 hn9 => ?_
  have hn97 : n9 ≠ g7 := fun e => by rw [e, H.ins_same] at hn9; cases hn9
  have hn92 : u2 n9 = none := by rw [H.ins_other _ _ hn97] at hn9; exact hn9
  have hM7 : M ≠ g7 := fun e => by rw [← e, hM2] at hg7; cases hg7
  have hM9 : M ≠ n9 := fun e => by rw [← e, hM2] at hn92; cases hn92
  refine st_one (H.ins_same _ _ _) (by simp [Value.oneCell']) ?_
  -- what is known at the loop's start
  have hstart : ∀ v, v M = some (.map o2 clk2) → (∀ c x, u c = some x → v c = some x) → v g7 = some (.cells #[.int .i64 at', .int .u64 (hiW (hitG T.g q at').2), .int .u64 (loW (hitG T.g q at').2)] 66 (0, 0)) →
      v n9 = some (.cells #[.slice (some ⟨g7, 0, none⟩) 1 1] 139 (0, 0)) → u n9 = none → u g7 = none → u M = none → FromI T q lv.toNat (walkF T.g q lv.toNat at') J M n9 T.g.length v := by
    intro v e1 e2 e3 e4 e5 e6 e7
    refine ⟨u, .map o2 clk2, 0, [at'], [hitG T.g q at'], [hitG T.g q at'], h0, e7, ?_, ?_, fun i i0 i1 => by simp at i1; omega, List.Perm.refl _, Met.one _ (hitG_id T.g q) hid, ?_, rfl, Nat.zero_le _⟩
    · exact ⟨o2, clk2, H.ins_same _ _ _, by assumption⟩
    · refine ⟨⟨⟨some ⟨g7, 0, none⟩, 1, 1⟩, e4, ⟨⟨(by simp [encH_len]), .inr ⟨g7, _, rfl, e3, Nat.le_refl _, (by show (1 : Nat) ≤ 9223372036854775807; decide), (by simp), (by simp [encH, hitG_id])⟩⟩, fun c x hc => ?_, fun g hg => ?_⟩, by simp [Sl.blk]; exact fun e => hn97 e.symm⟩, by rw [H.ins_other _ _ (Ne.symm hM9)]; exact e5, by simp⟩
      · unfold H.ins at hc
        split at hc
        · rename_i e; rw [e]; cases hc; exact e1
        · exact e2 c x hc
      · simp [Sl.blk] at hg
        rw [← hg, H.ins_other _ _ (Ne.symm hM7)]; exact e6
    · simp [due]
      have : 0 < T.g.length := by
        have := List.length_pos_of_mem hid
        simpa using this
      omega
  have hw : ∀ n v, FromI T q lv.toNat (walkF T.g q lv.toNat at') J M n9 n v → ∃ v0, ub.le v0 ∧ v0.le v := by
    rintro n v ⟨v0, o, i, met, Ls, L, hj, hM0, _, hn, _⟩
    obtain ⟨s, _, ho, _⟩ := hn.ex
    exact ⟨v0, hJ i v0 hj, (H.le_ins _ hM0).trans ho.le⟩
  refine ⟨fun v => ∃ n, FromI T q lv.toNat (walkF T.g q lv.toNat at') J M n9 n v, fun v => least fun n => FromI T q lv.toNat (walkF T.g q lv.toNat at') J M n9 n v, ⟨T.g.length, hstart _ ?_ ?_ ?_ ?_ ?_ ?_ hM⟩, ?_⟩
  · rw [H.ins_other _ _ hM9, H.ins_other _ _ hM9, H.ins_other _ _ hM7]; exact hM2
  · intro c x hc
    have hc2 := hu2 c x hc
    rw [H.ins_other _ _ (fun e => by rw [e, hn92] at hc2; cases hc2), H.ins_other _ _ (fun e => by rw [e, hn92] at hc2; cases hc2), H.ins_other _ _ (fun e => by rw [e, hg7] at hc2; cases hc2)]
    exact hc2
  · rw [H.ins_other _ _ (Ne.symm hn97), H.ins_other _ _ (Ne.symm hn97), H.ins_same]
  · rw [H.ins_same]
  · exact hu2.none hn92
  · exact hu2.none hg7
  intro v hv
  have hI := least_is hv
  obtain ⟨N, hN⟩ : ∃ N, (least fun n => FromI T q lv.toNat (walkF T.g q lv.toNat at') J M n9 n v) = N := ⟨_, rfl⟩
  dsimp only
  rw [hN] at hI ⊢
  obtain ⟨v0, o, i, met, Ls, L, hj, hM0, hset, hnear, hhp, hperm, hmet, hdue, hdrop, hi⟩ := hI
  have hubv0 := hJ i v0 hj
  obtain ⟨s, hsn9, hso, hsne⟩ := hnear.ex
  have hv0v : v0.le v := (H.le_ins _ hM0).trans hso.le
  refine ⟨s, H.cell?_of hsn9 0, vc.hnsw_near__Len s v _ ?_⟩
  have hsl := hso.hts.len
  refine ⟨fun hpos => ?_, fun hnot => ?_⟩
  · have hLpos : 0 < L.length := by omega
    refine spec.heap_Pop (nearHeap (v0.ins M o) n9) nearLt (V := hitI) hnear hhp hLpos (fun hst hl hK => near_pop hst hl hK) fun u1 L1 x hnear1 hperm1 hhp1 hmin => ?_
    -- the nearest one is the first that waits
    obtain ⟨y, Ls1, rfl⟩ : ∃ y Ls1, Ls = y :: Ls1 := by
      cases Ls with
      | nil => have := hperm.length_eq; rw [List.length_nil] at this; omega
      | cons y l => exact ⟨y, l, rfl⟩
    have hxy : x = y := by
      have hx : x ∈ y :: Ls1 := (hperm1.trans hperm).mem_iff.1 (.head _)
      have hy : y ∈ x :: L1 := (hperm1.trans hperm).mem_iff.2 (.head _)
      have k1 : hlt x y = false := by
        cases hx with
        | head => exact hlt_irrefl _
        | tail _ hx => exact (List.pairwise_cons.1 hmet.srt).1 x hx
      have k2 : hlt y x = false := by
        cases hy with
        | head => exact hlt_irrefl _
        | tail _ hy => exact hmin y hy
      exact hlt_eq k2 k1
    subst hxy
    have hperm2 : L1.Perm Ls1 := (List.perm_cons x).1 (hperm1.trans hperm)
    have hxin := hmet.sub _ (hmet.wait x (.head _)).1
    have hxe := (hmet.wait x (.head _)).2
    obtain ⟨n, rfl⟩ : ∃ n, N = n + 1 := ⟨N - 1, by simp [due] at hdue; omega⟩
    have hWi : (walkF T.g q lv.toNat at')[i]? = some x.1 := by
      have : ((walkF T.g q lv.toNat at').drop i)[0]? = some x.1 := by rw [hdrop]; simp [expl]
      rw [List.getElem?_drop] at this
      simpa using this
    have hdrop2 : (walkF T.g q lv.toNat at').drop (i + 1) = expl (hitG T.g q) (nbG T.g lv.toNat) n ((nbG T.g lv.toNat x.1).foldl (meetF (hitG T.g q)) (met, Ls1)).1 ((nbG T.g lv.toNat x.1).foldl (meetF (hitG T.g q)) (met, Ls1)).2 := by
      rw [← List.drop_drop, hdrop]; simp [expl]
    have hiWl : i < (walkF T.g q lv.toNat at').length := (List.getElem?_eq_some_iff.1 hWi).1
    refine sem_assertHit ?_
    have hv0u1 : v0.le u1 := by obtain ⟨_, _, ho1, _⟩ := hnear1.ex; exact (H.le_ins _ hM0).trans ho1.le
    refine (hsee i x.1 v0 (fun b v' => (b = true → J (i + 1) v') ∧ (b = false → E v')) hWi hj (fun v' hv' => ⟨fun _ => hv', fun e => (by cases e)⟩) (fun v' hv' => ⟨fun e => (by cases e), fun _ => hv'⟩)).frame hv0u1 ?_ |> (fun z => (by
      have e : hitV' (hitG T.g q x.1) = .agg #[.int .i64 x.1, .int .u64 (hiW x.2), .int .u64 (loW x.2)] := by rw [← hxe]; rfl
      rw [e] at z; exact z))
    rintro bb v0' u2' hfr ⟨hbt, hbf⟩
    refine ⟨fun hne => ⟨v0', hfr.le, hK2 _ (hbf (Bool.eq_false_iff.2 hne))⟩, fun hb => ?_⟩
    have hj2 := hbt hb
    obtain ⟨hnear2, hM0'⟩ := hnear1.framed hM0 hfr
    have hubv0' := hJ _ _ hj2
    have hu2le : v0'.le u2' := hfr.le
    have hT2 := h.mono (hubv0'.trans hu2le)
    obtain ⟨_, _, _, c3, _⟩ := tree_cells hT2
    refine ⟨_, rfl, _, c3, sem_node hT2 hxin fun nd hnd hN2 => ⟨_, rfl, by decide, ⟨l0, l1⟩, ?_⟩⟩
    obtain ⟨sk, lk, hs1, hs2, hc, ho, _⟩ := known_cell hN2 (lv := lv.toNat) (by omega)
    have hnb : nbG T.g lv.toNat x.1 = lk := nbG_of hnd hs2
    have hkn := ho.ints.len
    have hkm := ho.ints.max
    refine ⟨sk, hc, ?_⟩
    rw [hnb] at hdrop2
    have hlkin : ∀ y ∈ lk, y ∈ T.g.map (·.1) := fun y hy => hg.nb lv.toNat x.1 hxin y (by rw [hnb]; exact hy)
    have hset' : SetOf (v0'.ins M o) M met := by
      obtain ⟨es, clk, h1, h2⟩ := hset
      rw [H.ins_same] at h1
      exact ⟨es, clk, by rw [H.ins_same]; exact h1, h2⟩
    refine ⟨fun k w => 0 ≤ k ∧ k ≤ lk.length ∧ ∃ (o' : Obj) (L' : List Hit), SetOf (v0'.ins M o') M ((lk.take k.toNat).foldl (meetF (hitG T.g q)) (met, Ls1)).1 ∧ NearSt (v0'.ins M o') n9 w L' ∧ Hp hlt L'.length L' ∧
      L'.Perm ((lk.take k.toNat).foldl (meetF (hitG T.g q)) (met, Ls1)).2, fun k _ => lk.length - k.toNat, ⟨by omega, by omega, o, L1, hset', hnear2, hhp1, hperm2⟩, ?_⟩
    rintro k w ⟨k0, k1, o', L', hsetk, hneark, hhpk, hpermk⟩
    obtain ⟨sk', hsk9, hsko, _⟩ := hneark.ex
    have hv0w : v0'.le w := (H.le_ins _ hM0').trans hsko.le
    have hubw := hubv0'.trans hv0w
    have hmetk := Met.fold (hitG T.g q) (ids := T.g.map (·.1)) (hitG_id T.g q) (l := lk.take k.toNat) (hmet.tail _) fun y hy => hlkin y (List.mem_of_mem_take hy)
    refine ⟨fun hlt => ?_, fun hge => ?_⟩
    · have hkl : k.toNat < lk.length := by omega
      have hw0 : NdAt fp ub x.1 nd := h.node hnd
      obtain ⟨sk2, lk2, e1, e2, _, ho2, _⟩ := known_cell hw0 (lv := lv.toNat) (by omega)
      rw [hs1] at e1; cases e1
      rw [hs2] at e2; cases e2
      obtain ⟨p, hp, hcc⟩ := ho2.ints.at k0 hlt
      refine ⟨p, hp, ⟨k0, hlt⟩, _, H.cell?_mono hubw hcc, ?_⟩
      have hx : lk[k.toNat]? = some (lk.getD k.toNat 0) := by simp [hkl]
      have hxm := hlkin _ (List.mem_of_getElem? hx)
      have hf := take_fold (meetF (hitG T.g q)) lk hx (met, Ls1)
      rw [show k.toNat + 1 = (k + 1).toNat by omega] at hf
      refine sem_lookup setTy (hsetk.mono hsko.le) ?_
      refine ⟨fun hb => ?_, fun hb => ?_⟩
      · have hnot : lk.getD k.toNat 0 ∉ ((lk.take k.toNat).foldl (meetF (hitG T.g q)) (met, Ls1)).1 := by simpa using hb
        have hf2 : (lk.take (k + 1).toNat).foldl (meetF (hitG T.g q)) (met, Ls1) = (((lk.take k.toNat).foldl (meetF (hitG T.g q)) (met, Ls1)).1 ++ [lk.getD k.toNat 0], insH (hitG T.g q (lk.getD k.toNat 0)) ((lk.take k.toNat).foldl (meetF (hitG T.g q)) (met, Ls1)).2) := by
          rw [hf, meetF_neg hnot]
        refine sem_mapAdd setTy (hsetk.mono hsko.le) hnot fun w2 hset2 hk2 _ => ?_
        obtain ⟨es2, clk3, hwM, hkv⟩ := hset2
        have hnear3 := hneark.remap hM0' hwM hk2
        obtain ⟨_, _, hso3, _⟩ := hnear3.ex
        have hv0w2 : v0'.le w2 := (H.le_ins _ hM0').trans hso3.le
        refine spec.hnsw_Tree__hit (h.mono (hubv0'.trans hv0w2)) hg hxm (ht.mono (hubv0'.trans hv0w2)) ?_
        have hlen3 : L'.length ≤ 1000 := by
          rw [hpermk.length_eq]
          have := nodup_len hmetk.once (fun y hy => by
            obtain ⟨z, hz, rfl⟩ := List.mem_map.1 hy
            exact hmetk.sub _ (hmetk.wait z hz).1)
          simp at this; omega
        refine spec.heap_Push (nearHeap (v0'.ins M (.map es2 clk3)) n9) nearLt (x := hitI (hitG T.g q (lk.getD k.toNat 0))) hhpk (fun hK => near_push hnear3 (by omega) hK) fun w3 L3 hnear4 hperm4 hhp4 => ⟨⟨by omega, by omega⟩, ⟨by omega, by omega, _, L3, ?_, hnear4, hhp4, ?_⟩, by dsimp only; omega⟩
        · rw [hf2]; exact ⟨es2, clk3, H.ins_same _ _ _, hkv⟩
        · rw [hf2]
          refine hperm4.trans ?_
          refine (List.perm_append_singleton _ _).trans ?_
          exact (List.Perm.cons _ hpermk).trans (insH_perm _ _).symm
      · have hin : lk.getD k.toNat 0 ∈ ((lk.take k.toNat).foldl (meetF (hitG T.g q)) (met, Ls1)).1 := by simpa using hb
        have hf2 : (lk.take (k + 1).toNat).foldl (meetF (hitG T.g q)) (met, Ls1) = (lk.take k.toNat).foldl (meetF (hitG T.g q)) (met, Ls1) := by
          rw [hf, meetF_pos hin]
        exact ⟨⟨by omega, by omega⟩, ⟨by omega, by omega, o', L', by rw [hf2]; exact hsetk, hneark, hhpk, by rw [hf2]; exact hpermk⟩, by dsimp only; omega⟩
    · have hke : lk.take k.toNat = lk := List.take_of_length_le (by omega)
      rw [hke] at hsetk hpermk hmetk
      have hfin : FromI T q lv.toNat (walkF T.g q lv.toNat at') J M n9 n w := by
        refine ⟨v0', o', i + 1, _, _, L', hj2, hM0', hsetk, hneark, hhpk, hpermk, hmetk, ?_, hdrop2, by omega⟩
        have := due_fold (hitG T.g q) (hitG_id T.g q) (l := lk) (hmet.tail _) hlkin
        rw [hlen] at this
        have e : ((lk.foldl (meetF (hitG T.g q)) (met, Ls1)).1, (lk.foldl (meetF (hitG T.g q)) (met, Ls1)).2) = lk.foldl (meetF (hitG T.g q)) (met, Ls1) := rfl
        rw [e, this]
        simp [due] at hdue ⊢; omega
      exact ⟨⟨n, hfin⟩, Nat.lt_succ_of_le (least_le hfin)⟩
  · have hLe : L = [] := List.eq_nil_of_length_eq_zero (by omega)
    subst hLe
    have hLs : Ls = [] := by have := hperm.length_eq; simpa using this.symm
    subst hLs
    have he : (walkF T.g q lv.toNat at').drop i = [] := by rw [hdrop]; cases N <;> rfl
    have hie : i = (walkF T.g q lv.toNat at').length := by have := List.drop_eq_nil_iff.1 he; omega
    subst hie
    exact ⟨v0, hv0v, hK1 _ hj⟩

end Go.Proofs.YtpbelkpfljhjlaaGreatDoor

/- VcKnow -/
namespace Go.Proofs.YtpbelkpfljhjlaaGreatDoor
open Go.Sort Go.Shelf

theorem Wrote.step' {u : H} {w w' : World} {b : Nat} {o o' : Obj} (hw : Sub u w) (hb : u b = some o) (k : Wrote b o' w w') : Step u [] w (u.ins b o') [] w' := by
  refine ⟨fun x y h => ?_, k.os, k.tape, k.output, k.drawn, Nat.le_of_eq k.size.symm, fun x _ hx _ => k.rest x (fun e => by rw [e, hb] at hx; cases hx), fun x _ hx => ?_, [], by simp, by simp⟩
  · unfold H.ins at h
    split at h
    · rename_i e; rw [e]; cases h; exact k.at_
    · rename_i e; rw [k.rest x e]; exact hw _ _ h
  · rw [H.ins_other _ _ (fun e => by rw [e, hb] at hx; cases hx)]; exact hx

theorem sem_clear {u : H} {g off n c : Nat} {cur : Array Value} {T : TypeId} (hg : u g = some (.cells cur T (0, 0))) (hn : off + n ≤ cur.size) {ty : TypeId} {K : H → Prop} (hK : K (u.ins g (.cells (wr cur off (List.replicate n (.int .i64 0))) T (0, 0)))) :
    SemT Tryz.prog (Builtin.clear_ #[41] ty #[.slice (some ⟨g, off, none⟩) n c]) [] u K := by
  intro w hw
  obtain ⟨ht, i, z, hi, hz, hsize, hby, hzs, hzl⟩ := elemT_spec tInts
  rcases Nat.eq_zero_or_pos n with rfl | hpos
  · refine ⟨.tuple #[], w, u, by simp [Builtin.clear_, run_underlying ht], ⟨[], .nil, rfl, ?_⟩, Step.refl hw⟩
    have e : u.ins g (.cells (wr cur off (List.replicate 0 (.int .i64 0))) T (0, 0)) = u := H.ins_self (by rw [hg]; rfl)
    rw [e] at hK
    exact hK
  · obtain ⟨w', hr, hwr⟩ := storeCells_run (P := Tryz.prog) (b := g) (off := off) (T := T) (List.replicate n (.int .i64 0)) 0 cur w (hw _ _ hg) (by simp; omega) (fun v hv => by rw [List.eq_of_mem_replicate hv]; rfl)
    have hv : ∀ w, (zeroValue 3).run Tryz.prog w = .ok (.int .i64 0) w := fun _ => by kernel_rfl
    have hzc : (Builtin.zeroCells (Value.int .i64 0).cells n).toList = List.replicate n (.int .i64 0) := by
      simp [Builtin.zeroCells, Value.cells]
      apply List.ext_getElem
      · simp
      · intro i h1 h2
        simp [Nat.mod_one]
    obtain ⟨m, rfl⟩ : ∃ m, n = m + 1 := ⟨n - 1, by omega⟩
    refine ⟨.tuple #[], w', _, by simp [Builtin.clear_, run_underlying ht, hv, hzc, hr], ⟨[], .nil, rfl, hK⟩, hwr.step' hw hg⟩

/-- What a predicate's function value is asked: it looks at no more than what was known at first. -/
def PredOk (ub : H) (fv : Value) (p : Int → Bool) : Prop := ∀ x (v : H) (K : Bool → H → Prop), ub.le v → K (p x) v → ClY Tryz.prog fv #[.int .i64 x] [.one .bool] v K

theorem spec.slices_IndexFunc___int_int_ {ub u : H} {s : Sl} {l : List Int} {fv : Value} {p : Int → Bool} {K : Int → H → Prop} (hs : Ints u s l) (hp : PredOk ub fv p) (hub : ub.le u)
    (hK : ∀ i : Nat, i < l.length → (∀ k, k < i → p (l.getD k 0) = false) → p (l.getD i 0) = true → K i u) (hN : (∀ k, k < l.length → p (l.getD k 0) = false) → K (-1) u) : C.slices_IndexFunc___int_int_ s fv u K := by
  have hn := hs.len
  have hm := hs.max
  apply vc.slices_IndexFunc___int_int_
  refine ⟨fun _ i v => v = u ∧ 0 ≤ i ∧ i ≤ l.length ∧ ∀ k : Nat, k < i.toNat → p (l.getD k 0) = false, fun _ i _ => l.length - i.toNat, ⟨rfl, by omega, by omega, fun k hk => by simp at hk⟩, ?_⟩
  rintro _ i v ⟨rfl, i0, i1, hk⟩
  refine ⟨fun hil => ?_, fun hge => hN fun k hk' => hk k (by omega)⟩
  obtain ⟨q, hq, hc⟩ := hs.at i0 hil
  refine ⟨q, hq, ⟨i0, hil⟩, _, hc, hp _ _ _ hub ⟨fun hb => ?_, fun hb => ⟨⟨by omega, by omega⟩, ⟨rfl, by omega, by omega, fun k hk' => ?_⟩, by dsimp only; omega⟩⟩⟩
  · have := hK i.toNat (by omega) hk hb
    rw [show ((i.toNat : Nat) : Int) = i by omega] at this
    exact this
  · by_cases e : k = i.toNat
    · rw [e]; exact hb
    · exact hk k (by omega)

theorem spec.slices_Index___int_int_ {u : H} {s : Sl} {l : List Int} {x : Int} {K : Int → H → Prop} (hs : Ints u s l) (hK : ∀ i : Int, (0 ≤ i ↔ x ∈ l) → K i u) : C.slices_Index___int_int_ s x u K := by
  have hn := hs.len
  have hm := hs.max
  apply vc.slices_Index___int_int_
  refine ⟨fun _ i v => v = u ∧ 0 ≤ i ∧ i ≤ l.length ∧ ∀ k : Nat, k < i.toNat → l.getD k 0 ≠ x, fun _ i _ => l.length - i.toNat, ⟨rfl, by omega, by omega, fun k hk => by simp at hk⟩, ?_⟩
  rintro _ i v ⟨rfl, i0, i1, hk⟩
  refine ⟨fun hil => ?_, fun hge => hK _ ⟨fun h => by omega, fun h => ?_⟩⟩
  · obtain ⟨q, hq, hc⟩ := hs.at i0 hil
    have hx : l[i.toNat]? = some (l.getD i.toNat 0) := by
      have : i.toNat < l.length := by omega
      simp [this]
    refine ⟨q, hq, ⟨i0, hil⟩, _, hc, ⟨fun hb => hK i ⟨fun _ => by rw [hb]; exact List.mem_of_getElem? hx, fun _ => i0⟩, fun hb => ⟨⟨by omega, by omega⟩, ⟨rfl, by omega, by omega, fun k hk' => ?_⟩, by dsimp only; omega⟩⟩⟩
    by_cases e : k = i.toNat
    · rw [e]; exact fun h => hb h.symm
    · exact hk k (by omega)
  · exfalso
    obtain ⟨k, hkl, rfl⟩ := List.mem_iff_getElem.1 h
    exact hk k (by omega) (by simp [hkl])

theorem spec.slices_Contains___int_int_ {u : H} {s : Sl} {l : List Int} {x : Int} {K : Bool → H → Prop} (hs : Ints u s l) (hK : K (decide (x ∈ l)) u) : C.slices_Contains___int_int_ s x u K := by
  apply vc.slices_Contains___int_int_
  refine spec.slices_Index___int_int_ hs fun i hi => ?_
  have : decide (0 ≤ i) = decide (x ∈ l) := decide_eq_decide.2 hi
  rw [← this] at hK
  exact hK

theorem getD_take {l : List Int} {i k : Nat} (h : k < i) : (l.take i).getD k 0 = l.getD k 0 := by
  rw [List.getD_eq_getElem?_getD, List.getD_eq_getElem?_getD, List.getElem?_take, if_pos h]

theorem OwnF.clear {u0 u : H} {e : Nat} {s : Sl} {l : List Int} (h : OwnF u0 u e 1 s (l.flatMap encI)) {i : Nat} (hi : i ≤ s.n) {ty : TypeId} {K : H → Prop}
    (hK : ∀ (u' : H) (l' : List Int), OwnF u0 u' e 1 s (l'.flatMap encI) → l'.take i = l.take i → l'.length = l.length → Else u u' s → K u') : SemT Tryz.prog (Builtin.clear_ #[41] ty #[.slice (s.part i s.n s.c 1).a (s.part i s.n s.c 1).n (s.part i s.n s.c 1).c]) [] u K := by
  have hsn := h.ints.len
  rcases h.own.is with h0 | ⟨g, cur, ha, hg, hn, hc, hs, ht⟩
  · subst h0
    have hl : l = [] := List.eq_nil_of_length_eq_zero hsn.symm
    subst hl
    have hi0 : i = 0 := by simpa using hi
    subst hi0
    refine SemT.pure [] (fun w hw => ?_) .nil (hK u [] h rfl rfl (Else.refl _ _))
    obtain ⟨ht, _⟩ := elemT_spec tInts
    simp [Sl.part, Builtin.clear_, run_underlying ht]
    rfl
  · rcases Nat.eq_or_lt_of_le hi with rfl | hlt
    · -- nothing is cleared
      have e : (s.part s.n s.n s.c 1).n = 0 := by simp [Sl.part]
      refine SemT.pure [] (fun w hw => ?_) .nil (hK u l h rfl rfl (Else.refl _ _))
      obtain ⟨ht, _⟩ := elemT_spec tInts
      rw [e]
      cases (s.part s.n s.n s.c 1).a <;> simp [Builtin.clear_, run_underlying ht] <;> rfl
    · have hpa : (s.part i s.n s.c 1).a = some ⟨g, i, none⟩ := by
        unfold Sl.part
        simp only
        rw [if_neg (by omega), ha]
        simp [Addr.add_lit]
      rw [hpa]
      have hpn : (s.part i s.n s.c 1).n = s.n - i := rfl
      rw [hpn]
      have hsz : i + (s.n - i) ≤ cur.size := by rw [hs]; omega
      refine sem_clear hg hsz ?_
      have hwl := wr_toList cur i (List.replicate (s.n - i) (.int .i64 0)) (by simpa using hsz)
      simp only [List.length_replicate] at hwl
      refine hK _ (l.take i ++ List.replicate (s.n - i) 0) ⟨⟨by rw [flat_len encI_len]; simp; omega, .inr ⟨g, _, ha, H.ins_same _ _ _, hn, hc, ?_, ?_⟩⟩, fun b o hb => ?_, h.fresh⟩ ?_ ?_ ?_
      · rw [← Array.length_toList, hwl]; simp; omega
      · rw [hwl, flatI, List.map_append, List.map_replicate]
        have ht' : cur.toList.take s.n = l.map fun x => .int .i64 x := by rw [← flatI, ← ht, Nat.mul_one]
        have h1 : cur.toList.take i = (l.take i).map fun x => .int .i64 x := by
          rw [List.map_take, ← ht', List.take_take, Nat.min_eq_left (by omega)]
        rw [h1, List.take_append_of_le_length (by simp; omega), List.take_of_length_le (by simp; omega)]
      · have : b ≠ g := fun e => by
          have := h.fresh g (by simp [Sl.blk, ha])
          rw [e, this] at hb; cases hb
        rw [H.ins_other _ _ this]; exact h.le b o hb
      · rw [List.take_append_of_le_length (by simp; omega), List.take_take, Nat.min_self]
      · simp; omega
      · intro b o hb hne
        rw [H.ins_other _ _ (fun e => hne (by simp [Sl.blk, ha, e]))]; exact hb

theorem part_to (s : Sl) (i : Nat) : s.part 0 i s.c 1 = ⟨s.a, i, s.c⟩ := by
  unfold Sl.part
  simp only [Nat.sub_zero, Nat.zero_mul]
  split
  · rfl
  · cases s.a <;> simp [Addr.add_zero']

theorem spec.slices_DeleteFunc___int_int_ {u0 ub u : H} {s : Sl} {l : List Int} {fv : Value} {p : Int → Bool} {K : Sl → H → Prop} (ho : OwnF u0 u 3 1 s (l.flatMap encI)) (hp : PredOk ub fv p) (hub : ub.le u) (hbs : ∀ b, s.blk = some b → ub b = none)
    (hK : ∀ s' u', OwnF u0 u' 3 1 s' ((l.filter fun x => !p x).flatMap encI) → s'.blk = s.blk → Else u u' s → K s' u') : C.slices_DeleteFunc___int_int_ s fv u K := by
  have hsn := ho.ints.len
  have hmx := ho.ints.max
  apply vc.slices_DeleteFunc___int_int_
  refine spec.slices_IndexFunc___int_int_ ho.ints hp hub (fun i hi hno hyes => ⟨fun h => by omega, fun _ => ⟨⟨by omega, by omega⟩, ?_⟩⟩) fun hno => ⟨fun _ => ?_, fun h => absurd rfl h⟩
  · have hbefore : (l.take i).filter (fun x => !p x) = l.take i := by
      rw [List.filter_eq_self]
      intro a ha
      obtain ⟨k, hk, rfl⟩ := List.mem_iff_getElem.1 ha
      simp only [List.length_take] at hk
      have := hno k (by omega)
      rw [List.getD_eq_getElem?_getD, List.getElem?_eq_getElem (by omega)] at this
      simp only [List.getElem_take, Option.getD_some] at this ⊢
      rw [this]; rfl
    have hx : l[i]? = some (l.getD i 0) := by simp [hi]
    refine ⟨fun a j v => 0 ≤ a ∧ a < j ∧ j ≤ l.length ∧ Else u v s ∧ ∃ m : List Int, m.length = l.length ∧ OwnF u0 v 3 1 s (m.flatMap encI) ∧ m.take a.toNat = (l.take j.toNat).filter (fun x => !p x) ∧ m.drop j.toNat = l.drop j.toNat,
      fun _ j _ => l.length - j.toNat, ⟨by omega, by omega, by omega, Else.refl _ _, l, rfl, ho, ?_, rfl⟩, ?_⟩
    · rw [show ((i : Int) + 1).toNat = i + 1 by omega, Int.toNat_natCast, List.take_add_one, hx]
      simp only [Option.toList_some, List.filter_append, hbefore, List.filter_cons, hyes]
      simp
    rintro a j v ⟨a0, aj, jl, hel, m, hml, hom, htk, hdr⟩
    have hubv : ub.le v := fun b o hb => hel b o (hub b o hb) fun e => by rw [hbs b e] at hb; cases hb
    refine ⟨fun hjl => ?_, fun hge => ?_⟩
    · obtain ⟨q, hq, hc⟩ := hom.ints.at (x := j) (by omega) hjl
      have hjm : m.getD j.toNat 0 = l.getD j.toNat 0 := by
        have := congrArg (fun z => z[0]?) hdr
        simp only [List.getElem?_drop, Nat.add_zero] at this
        rw [List.getD_eq_getElem?_getD, List.getD_eq_getElem?_getD, this]
      have hjx : l[j.toNat]? = some (l.getD j.toNat 0) := by
        have : j.toNat < l.length := by omega
        simp [this]
      rw [hjm] at hc
      have htk2 : (l.take (j.toNat + 1)).filter (fun x => !p x) = m.take a.toNat ++ (if p (l.getD j.toNat 0) = true then [] else [l.getD j.toNat 0]) := by
        rw [List.take_add_one, hjx, htk]
        simp only [Option.toList_some, List.filter_append, List.filter_cons, List.filter_nil]
        cases p (l.getD j.toNat 0) <;> simp
      have hdr2 : ∀ m' : List Int, (∀ k, a.toNat < k → m'[k]? = m[k]?) → m'.drop (j + 1).toNat = l.drop (j + 1).toNat := fun m' hm' => by
        have e : l.drop (j + 1).toNat = m.drop (j + 1).toNat := by
          rw [show (j + 1).toNat = j.toNat + 1 by omega, ← List.drop_drop, ← List.drop_drop, hdr]
        rw [e]
        apply List.ext_getElem?
        intro k
        rw [List.getElem?_drop, List.getElem?_drop, hm' _ (by omega)]
      refine ⟨q, hq, ⟨by omega, hjl⟩, _, hc, hp _ _ _ hubv ⟨fun hb => ?_, fun hb => ?_⟩⟩
      · have hpf : p (l.getD j.toNat 0) = false := by simpa using hb
        rw [hpf] at htk2
        refine ⟨q, hq, ⟨by omega, by omega⟩, ?_⟩
        refine OwnF.store (enc := encI) encI_len hom (by decide) (i := a.toNat) (by omega) (y := l.getD j.toNat 0) (encI_one _) hq fun u2 ho2 he2 _ => ⟨⟨by omega, by omega⟩, ⟨by omega, by omega⟩, ⟨by omega, by omega, by omega, fun b o hb hne => he2 b o (hel b o hb hne) hne, _, by simpa using hml, ho2, ?_, ?_⟩, by dsimp only; omega⟩
        · rw [show (j + 1).toNat = j.toNat + 1 by omega, htk2, show (a + 1).toNat = a.toNat + 1 by omega, List.take_add_one, List.getElem?_set_self (by omega), List.take_set_of_le (Nat.le_refl _)]
          simp
        · exact hdr2 _ fun k hk => List.getElem?_set_ne (by omega)
      · rw [hb] at htk2
        refine ⟨⟨by omega, by omega⟩, ⟨by omega, by omega, by omega, hel, m, hml, hom, ?_, hdr2 m fun _ _ => rfl⟩, by dsimp only; omega⟩
        rw [show (j + 1).toNat = j.toNat + 1 by omega, htk2]; simp
    · have hjl : j.toNat = l.length := by
        have : ¬ j < (s.n : Int) := hge
        omega
      have hcap := Seg.cap hom.own.seg
      rw [hjl, List.take_length] at htk
      refine sem_slice (P := Tryz.prog) tInts (l := a.toNat) (h := s.n) (m := s.c) (.inr (by rw [Int.toNat_of_nonneg a0])) (.inl ⟨rfl, rfl⟩) (.inl ⟨rfl, rfl⟩) (by omega) hcap (Nat.le_refl _) hcap ?_
      refine hom.clear (i := a.toNat) (by omega) fun u2 m2 ho2 h1 h2 he2 => ?_
      refine sem_slice (P := Tryz.prog) tInts (l := 0) (h := a.toNat) (m := s.c) (.inl ⟨rfl, rfl⟩) (.inr (by rw [Int.toNat_of_nonneg a0])) (.inl ⟨rfl, rfl⟩) (by omega) (by omega) (Nat.le_refl _) hcap ?_
      obtain ⟨hf, hfb, _⟩ := ho2.front (m := a.toNat) (by omega)
      have e : (m2.flatMap encI).take (a.toNat * 1) = (l.filter fun x => !p x).flatMap encI := by
        rw [flat_take encI_len, h1, htk]
      rw [e] at hf
      exact hK _ _ hf hfb fun b o hb hne => he2 b o (hel b o hb hne) hne
  · have e : l.filter (fun x => !p x) = l := by
      rw [List.filter_eq_self]
      intro a ha
      obtain ⟨k, hk, rfl⟩ := List.mem_iff_getElem.1 ha
      have := hno k hk
      rw [List.getD_eq_getElem?_getD, List.getElem?_eq_getElem hk] at this
      simp only [Option.getD_some] at this
      rw [this]; rfl
    exact hK s u (by rw [e]; exact ho) rfl (Else.refl _ _)

end Go.Proofs.YtpbelkpfljhjlaaGreatDoor

/- VcKnow2 -/
namespace Go.Proofs.YtpbelkpfljhjlaaGreatDoor
open Go.Sort Go.Shelf

theorem spec.hnsw_Tree__know_1 {u : H} {b n0 n6 p : Nat} {T : Tr} {q : List Int} {sv : Sl} {x y : Int} {K : Int → H → Prop} (h : TrRd u b T) (hg : GOk T.dim T.g) (hx : x ∈ T.g.map (·.1)) (hy : y ∈ T.g.map (·.1)) (hq : QAt u T.dim sv q)
    (c0 : u.cell? ⟨n0, 0, none⟩ = some (.pointer (some ⟨b, 0, none⟩))) (c6 : u.cell? ⟨n6, 0, none⟩ = some (.pointer (some ⟨p, 0, none⟩))) (cp : u.cell? ⟨p, 0, none⟩ = some (.slice sv.a sv.n sv.c))
    (hK : K (if hlt (hitG T.g q x) (hitG T.g q y) = true then -1 else 1) u) : C.hnsw_Tree__know_1 x y ⟨n0, 0, none⟩ ⟨n6, 0, none⟩ u K := by
  apply vc.hnsw_Tree__know_1
  refine ⟨_, c0, _, c6, _, rfl, sv, cp, _, c0, _, c6, _, rfl, sv, cp, spec.hit_rd h hg hx hq ⟨H.le.refl u, spec.hit_rd h hg hy hq (spec.topk_Less (a := hitG T.g q x) (b := hitG T.g q y) ⟨fun hb => ?_, fun hb => ?_⟩)⟩⟩
  · rw [if_pos hb] at hK; exact hK
  · rw [if_neg (by rw [hb]; simp)] at hK; exact hK

/-- What a row's list becomes. -/
structure KnowL (links lv : Int) (l : List Int) (x : Int) (l' : List Int) : Prop where
  sub : ∀ y ∈ l', y ∈ l ∨ y = x
  nodup : (l ++ [x]).Nodup → l'.Nodup
  len : (l'.length : Int) ≤ mostI links lv

theorem mostI_le {links lv : Int} (h : 1 ≤ links ∧ links ≤ 16) : 1 ≤ mostI links lv ∧ mostI links lv ≤ 32 := by
  unfold mostI; split <;> omega

theorem hitSWO (g : List (Int × Nd)) (q : List Int) (ids : List Int) : SWO (ltOf fun x y : { i // i ∈ ids } => if hlt (hitG g q x.1) (hitG g q y.1) = true then (-1 : Int) else 1) where
  irrefl x := by unfold ltOf; simp [hlt_irrefl]
  trans x y z h1 h2 := by
    unfold ltOf at *
    simp only [decide_eq_true_eq] at *
    have k1 : hlt (hitG g q x.1) (hitG g q y.1) = true := by
      revert h1; split
      · intro _; assumption
      · intro h; omega
    have k2 : hlt (hitG g q y.1) (hitG g q z.1) = true := by
      revert h2; split
      · intro _; assumption
      · intro h; omega
    rw [if_pos (hlt_lt_trans k1 k2)]; decide
  ntrans x y z h1 h2 := by
    unfold ltOf at *
    simp only [decide_eq_false_iff_not] at *
    have k1 : hlt (hitG g q x.1) (hitG g q y.1) = false := by
      revert h1; split
      · intro h; exact absurd (by decide) h
      · intro _; simp_all
    have k2 : hlt (hitG g q y.1) (hitG g q z.1) = false := by
      revert h2; split
      · intro h; exact absurd (by decide) h
      · intro _; simp_all
    rw [if_neg (by rw [hlt_le_trans k2 k1]; simp)]; decide

/-- A heap without a block. -/
def H.without (u : H) (s : Sl) : H := fun c => open Classical in if s.blk = some c then none else u c

theorem H.without_le (u : H) (s : Sl) : (u.without s).le u := fun c o h => by
  unfold H.without at h
  split at h
  · cases h
  · exact h

theorem H.without_at {u : H} {s : Sl} {c : Nat} (h : s.blk ≠ some c) : u.without s c = u c := if_neg h

theorem spec.hnsw_Tree__know {u0 u : H} {fp : Nat → Option Tg} {b : Nat} {T : Tr} {a x lv : Int} {n : Nd} {l : List Int} {K : H → Prop} (h : In u0 u fp b T) (hg : GOk T.dim T.g) (hl : 1 ≤ T.links ∧ T.links ≤ 16)
    (hn : getN T.g a = some n) (hx : x ∈ T.g.map (·.1)) (l0 : 0 ≤ lv) (l1 : lv < 31) (hkn : n.kn[lv.toNat]? = some l) (hll : l.length ≤ 1000000)
    (hK : ∀ u' fp' s' l', In u0 u' fp' b { T with g := setN T.g a (n.setK lv.toNat s' l') } → Turn u fp u' fp' → KnowL T.links lv l x l' → K u') : C.hnsw_Tree__know (some ⟨b, 0, none⟩) a x lv u K := by
  have ha : a ∈ T.g.map (·.1) := List.mem_map.2 ⟨_, getN_mem hn, rfl⟩
  have hN := h.tr.node hn
  obtain ⟨s, l2, hs1, hs2, hc, ho, htag⟩ := known_cell hN (lv := lv.toNat) (by omega)
  rw [hkn] at hs2; cases hs2
  have hmost := mostI_le (lv := lv) hl
  apply vc.hnsw_Tree__know
  intro n0 hn0
  have le0 := H.le_ins (u := u) (b := n0) (.cells #[.pointer (some ⟨b, 0, none⟩)] 30 (0, 0)) hn0
  obtain ⟨_, _, _, c3, _⟩ := tree_cells (h.tr.mono le0)
  refine ⟨_, H.cell?_of (H.ins_same _ _ _) 0, _, rfl, _, c3, sem_node (h.tr.mono le0) ha fun nd hnd _ => ?_⟩
  rw [hn] at hnd; cases hnd
  intro n6 hn6
  have hn60 : u n6 = none := le0.none hn6
  have hn06 : n0 ≠ n6 := fun e => by rw [← e, H.ins_same] at hn6; cases hn6
  refine st_new (zs := [.pointer none]) rfl (by simp [Value.oneCell']) ?_
  obtain ⟨u7, hu7⟩ : ∃ u7, (u.ins n0 (.cells #[.pointer (some ⟨b, 0, none⟩)] 30 (0, 0))).ins n6 (.cells [.pointer (some ⟨n.p, 0, none⟩)].toArray 86 (0, 0)) = u7 := ⟨_, rfl⟩
  rw [hu7]
  have le7 : u.le u7 := by rw [← hu7]; exact le0.trans (H.le_ins _ hn6)
  have b0 : u7 n0 = some (.cells #[.pointer (some ⟨b, 0, none⟩)] 30 (0, 0)) := by rw [← hu7, H.ins_other _ _ hn06, H.ins_same]
  have b6 : u7 n6 = some (.cells #[.pointer (some ⟨n.p, 0, none⟩)] 86 (0, 0)) := by rw [← hu7, H.ins_same]
  refine ⟨_, H.cell?_of b6 0, _, rfl, by decide, ⟨l0, l1⟩, s, H.cell?_mono le7 hc, ?_⟩
  have hsl := ho.ints.len
  have hst : ∀ c, s.blk = some c → fp c ≠ none := fun c e => by rw [htag c e]; simp
  have hsn0 : s.blk ≠ some n0 := fun e => h.known n0 (hst _ e) hn0
  have hsn6 : s.blk ≠ some n6 := fun e => h.known n6 (hst _ e) hn60
  refine sem_push' tInts (build_int x) (by decide) rfl (by simp [Value.oneCell']) (ho.mono le7) (by omega) (by omega) fun s13 u14 ho14 hn14 he14 hb14 hsome => ?_
  have hflat : l.flatMap encI ++ [.int .i64 x] = (l ++ [x]).flatMap encI := by simp [encI]
  rw [hflat] at ho14
  -- what is known at the join
  have kept14 : ∀ c o, u c = some o → s.blk ≠ some c → u14 c = some o := fun c o h1 h2 => he14 c o (le7 c o h1) h2
  have blk14 : ∀ c, s13.blk = some c → s.blk = some c ∨ u c = none := fun c e => (hb14 c e).imp id fun h1 => le7.none h1
  have narr : ∀ c, fp c ≠ none → (∀ i lv, fp c ≠ some (.arr i lv)) → s.blk ≠ some c := fun c _ h2 e => h2 _ _ (htag c e)
  have rd14 : TrRd u14 b T := h.tr.rd_else fun c o h1 h2 h3 => kept14 c o h1 (narr c h2 h3)
  have c014 : u14 n0 = some (.cells #[.pointer (some ⟨b, 0, none⟩)] 30 (0, 0)) := he14 _ _ b0 hsn0
  have c614 : u14 n6 = some (.cells #[.pointer (some ⟨n.p, 0, none⟩)] 86 (0, 0)) := he14 _ _ b6 hsn6
  -- the join
  intro K15 hK15
  have join : ∀ (s16 : Sl) (u17 : H) (l' : List Int), OwnF H0 u17 3 1 s16 (l'.flatMap encI) → KnowL T.links lv l x l' → (∀ c o, u c = some o → s.blk ≠ some c → u17 c = some o) → (∀ c, s16.blk = some c → s.blk = some c ∨ u c = none) →
      u17 n6 = some (.cells #[.pointer (some ⟨n.p, 0, none⟩)] 86 (0, 0)) → K15 s16 u17 := by
    intro s16 u17 l' h1 h2 h3 h4 h5
    refine hK15 _ _ ⟨_, H.cell?_of h5 0, _, rfl, by decide, ⟨l0, l1⟩, ?_⟩
    rw [node_addr]
    have hsp : s.blk ≠ some n.p := fun e => by have := htag _ e; rw [hN.tag] at this; cases this
    refine st_known (h3 _ _ hN.cell hsp) hN.kslen (by omega) l' ?_
    obtain ⟨fp', h6, h7⟩ := h.level hn hs1 h1 h3 h4
    exact hK _ _ _ _ h6 h7 h2
  have hlen13 : s13.n = l.length + 1 := by have := ho14.ints.len; simpa using this
  have hq14 : QAt u14 T.dim n.sv n.v := ⟨(rd14.nodes _ (getN_mem hn)).2, (hg.vec _ (getN_mem hn)).2, (hg.vec _ (getN_mem hn)).1⟩
  have cp14 : u14.cell? ⟨n.p, 0, none⟩ = some (.slice n.sv.a n.sv.n n.sv.c) := by
    have := (rd14.nodes _ (getN_mem hn)).1
    simp only at this
    simp [H.cell?, this, nodeC]
  refine ⟨_, H.cell?_of c014 0, spec.hnsw_Tree__most rd14 hl ⟨fun hmany => ?_, fun hge => ?_⟩⟩
  · have hkin : ∀ y ∈ l ++ [x], y ∈ T.g.map (·.1) := fun y hy => by
      rcases List.mem_append.1 hy with hy | hy
      · exact hg.nb lv.toNat a ha y (by rw [nbG_of hn hkn]; exact hy)
      · simp at hy; rw [hy]; exact hx
    -- the list's elements as rows that there are
    obtain ⟨L, hL⟩ : ∃ L : List { i // i ∈ T.g.map (·.1) }, L.map (·.1) = l ++ [x] := ⟨(l ++ [x]).attachWith _ hkin, by simp⟩
    haveI : Inhabited { i // i ∈ T.g.map (·.1) } := ⟨⟨x, hx⟩⟩
    have hw0 : ∀ {c : Nat}, s.blk ≠ some c → (u7 c ≠ none) → s13.blk ≠ some c := fun h1 h2 e => (hb14 _ e).elim h1 h2
    have rdub : TrRd (u14.without s13) b T := h.tr.rd_else fun c o h1 h2 h3 => by
      have h4 := narr c h2 h3
      rw [H.without_at (hw0 h4 (by rw [le7 c o h1]; simp))]
      exact kept14 c o h1 h4
    have d0 : (u14.without s13) n0 = some (.cells #[.pointer (some ⟨b, 0, none⟩)] 30 (0, 0)) := by rw [H.without_at (hw0 hsn0 (by rw [b0]; simp))]; exact c014
    have d6 : (u14.without s13) n6 = some (.cells #[.pointer (some ⟨n.p, 0, none⟩)] 86 (0, 0)) := by rw [H.without_at (hw0 hsn6 (by rw [b6]; simp))]; exact c614
    have hqub : QAt (u14.without s13) T.dim n.sv n.v := ⟨(rdub.nodes _ (getN_mem hn)).2, (hg.vec _ (getN_mem hn)).2, (hg.vec _ (getN_mem hn)).1⟩
    have cpub : (u14.without s13).cell? ⟨n.p, 0, none⟩ = some (.slice n.sv.a n.sv.n n.sv.c) := by
      have := (rdub.nodes _ (getN_mem hn)).1
      simp only at this
      simp [H.cell?, this, nodeC]
    rw [← hL] at ho14
    refine spec.slices_SortFunc___int_int_ (val := fun i : { i // i ∈ T.g.map (·.1) } => i.1) (hitSWO T.g n.v (T.g.map (·.1))) (enters_of Tryz.func102 (by kernel_rfl) rfl) (ub := u14.without s13)
      (fun y z v hv => ?_) (H.without_le _ _) (fun c hc => if_pos hc) ho14 ?_ fun u24 L' hp' _ ho24 he24 => ?_
    · exact spec.hnsw_Tree__know_1 (K := fun z' u2 => z' = (if hlt (hitG T.g n.v y.1) (hitG T.g n.v z.1) = true then -1 else 1) ∧ u2 = v) (rdub.mono hv) hg y.2 z.2 (hqub.mono hv) (H.cell?_mono hv (H.cell?_of d0 0)) (H.cell?_mono hv (H.cell?_of d6 0)) (H.cell?_mono hv cpub) ⟨rfl, rfl⟩
    · have := congrArg List.length hL
      simp at this; omega
    · have rd24 : TrRd u24 b T := h.tr.rd_else fun c o h1 h2 h3 => by
        have h4 := narr c h2 h3
        exact he24 c o (kept14 c o h1 h4) (hw0 h4 (by rw [le7 c o h1]; simp))
      have c024 := he24 _ _ c014 (hw0 hsn0 (by rw [b0]; simp))
      have c624 := he24 _ _ c614 (hw0 hsn6 (by rw [b6]; simp))
      have hcap := Seg.cap ho24.own.seg
      refine ⟨_, H.cell?_of c024 0, spec.hnsw_Tree__most rd24 hl ?_⟩
      refine sem_slice (P := Tryz.prog) tInts (l := 0) (h := (mostI T.links lv).toNat) (m := s13.c) (.inl ⟨rfl, rfl⟩) (.inr (by rw [Int.toNat_of_nonneg (by omega)])) (.inl ⟨rfl, rfl⟩) (by omega) (by omega) (Nat.le_refl _) hcap ?_
      obtain ⟨hf, hfb, _⟩ := ho24.front (m := (mostI T.links lv).toNat) (by omega)
      rw [flat_take encI_len] at hf
      refine join _ _ _ hf ⟨fun y hy => ?_, fun hnd => ?_, ?_⟩ (fun c o h1 h2 => he24 c o (kept14 c o h1 h2) (hw0 h2 (by rw [le7 c o h1]; simp))) (fun c e => blk14 c (by rw [← hfb]; exact e)) c624
      · have hy2 := List.mem_of_mem_take hy
        have := ((hp'.map (·.1)).mem_iff (a := y)).1 hy2
        rw [hL] at this
        simpa using this
      · rw [← hL] at hnd
        exact ((hp'.map (·.1)).nodup_iff.2 hnd).sublist (List.take_sublist _ _)
      · simp; omega
  · refine join s13 u14 (l ++ [x]) ho14 ⟨fun y hy => by simpa using hy, fun h => h, ?_⟩ kept14 blk14 c614
    simp; omega

end Go.Proofs.YtpbelkpfljhjlaaGreatDoor

/- VcTree2 -/
namespace Go.Proofs.YtpbelkpfljhjlaaGreatDoor

def rowsG (g : List (Int × Nd)) : List (Int × List Int) := g.map fun x => (x.1, x.2.v)

/-- The same rows, in the same blocks; they may know others. -/
structure Alike (g g' : List (Int × Nd)) : Prop where
  ids : g'.map (·.1) = g.map (·.1)
  at' : ∀ i n, getN g i = some n → ∃ n', getN g' i = some n' ∧ n'.p = n.p ∧ n'.v = n.v ∧ n'.top = n.top

theorem Alike.refl (g : List (Int × Nd)) : Alike g g := ⟨rfl, fun _ n h => ⟨n, h, rfl, rfl, rfl⟩⟩

theorem Alike.trans {g g' g'' : List (Int × Nd)} (h : Alike g g') (k : Alike g' g'') : Alike g g'' :=
  ⟨k.ids.trans h.ids, fun i n hn => by
    obtain ⟨n', h1, h2, h3, h4⟩ := h.at' i n hn
    obtain ⟨n'', k1, k2, k3, k4⟩ := k.at' i n' h1
    exact ⟨n'', k1, k2.trans h2, k3.trans h3, k4.trans h4⟩⟩

theorem Alike.setK {g : List (Int × Nd)} {a : Int} {n : Nd} (hn : getN g a = some n) (lv : Nat) (s : Sl) (l : List Int) : Alike g (setN g a (n.setK lv s l)) :=
  ⟨setN_ids _ _ _, fun i m hm => by
    rw [getN_setN]
    by_cases e : i = a
    · subst e
      rw [if_pos rfl, hm]
      rw [hn] at hm; cases hm
      exact ⟨_, rfl, rfl, rfl, rfl⟩
    · rw [if_neg e]; exact ⟨m, hm, rfl, rfl, rfl⟩⟩

theorem Alike.map {β : Type} {g g' : List (Int × Nd)} (h : Alike g g') (hnd : (g.map (·.1)).Nodup) (f : Int × Nd → β) (hf : ∀ i n n', n'.p = n.p → n'.v = n.v → n'.top = n.top → f (i, n') = f (i, n)) : g'.map f = g.map f := by
  have hlen : g'.length = g.length := by have := congrArg List.length h.ids; simpa using this
  apply List.ext_getElem (by simp [hlen])
  intro k h1 h2
  simp only [List.length_map] at h1 h2
  simp only [List.getElem_map]
  have hid : (g'[k]).1 = (g[k]).1 := by
    have := congrArg (fun l => l[k]?) h.ids
    simpa [h1, h2] using this
  have hg := getN_eq hnd (id := (g[k]).1) (n := (g[k]).2) (List.getElem_mem h2)
  obtain ⟨n', e1, e2, e3, e4⟩ := h.at' _ _ hg
  have hnd' : (g'.map (·.1)).Nodup := by rw [h.ids]; exact hnd
  have hg' := getN_eq hnd' (id := (g'[k]).1) (n := (g'[k]).2) (List.getElem_mem h1)
  rw [hid, e1] at hg'
  have e5 : (g'[k]).2 = n' := (Option.some.inj hg').symm
  have e6 : g'[k] = ((g[k]).1, n') := by rw [← hid, ← e5]
  rw [e6]
  exact hf _ _ _ e2 e3 e4

theorem Alike.rows {g g' : List (Int × Nd)} (h : Alike g g') (hnd : (g.map (·.1)).Nodup) : rowsG g' = rowsG g := h.map hnd _ fun _ _ _ _ h2 _ => by rw [h2]
theorem Alike.ptrs {g g' : List (Int × Nd)} (h : Alike g g') (hnd : (g.map (·.1)).Nodup) : ptrs g' = ptrs g := h.map hnd _ fun _ _ _ h1 _ _ => by rw [h1]

/-- What must be of rows that know one another. -/
structure KOk (dim links : Int) (g : List (Int × Nd)) : Prop where
  ok : GOk dim g
  many : ∀ i n (lv : Nat) l, getN g i = some n → n.kn[lv]? = some l → (l.length : Int) ≤ mostI links lv ∧ l.Nodup ∧ i ∉ l

theorem GOk.alike {dim : Int} {g g' : List (Int × Nd)} (h : GOk dim g) (ha : Alike g g') (hnd : (g.map (·.1)).Nodup) (hk : ∀ i n l, getN g' i = some n → l ∈ n.kn → ∀ x ∈ l, x ∈ g.map (·.1)) : GOk dim g' := by
  have hnd' : (g'.map (·.1)).Nodup := by rw [ha.ids]; exact hnd
  have old : ∀ x ∈ g', ∃ n, getN g x.1 = some n ∧ x.2.v = n.v ∧ x.2.top = n.top := fun x hx => by
    have hid : x.1 ∈ g.map (·.1) := by rw [← ha.ids]; exact List.mem_map.2 ⟨x, hx, rfl⟩
    obtain ⟨n, hn⟩ := getN_some hid
    obtain ⟨n', e1, _, e3, e4⟩ := ha.at' _ _ hn
    have := getN_eq hnd' (id := x.1) (n := x.2) hx
    rw [e1] at this
    cases this
    exact ⟨n, hn, e3, e4⟩
  refine ⟨h.dm, fun x hx => ?_, fun x hx => ?_, fun x hx l hl i hi => ?_, fun x hx => ?_, ?_⟩
  · obtain ⟨n, hn, e1, _⟩ := old x hx
    have := h.vec _ (getN_mem hn)
    rw [e1]; exact this
  · obtain ⟨n, hn, _, e2⟩ := old x hx
    have := h.top _ (getN_mem hn)
    rw [e2]; exact this
  · rw [ha.ids]
    exact hk x.1 x.2 l (getN_eq hnd' hx) hl i hi
  · obtain ⟨n, hn, _⟩ := old x hx
    exact h.ids (x.1, n) (getN_mem hn)
  · have := congrArg List.length ha.ids
    simp only [List.length_map] at this
    rw [this]; exact h.small

theorem setK_kn {n : Nd} {lv : Nat} {s : Sl} {l l2 : List Int} {lv2 : Nat} (h : (n.setK lv s l).kn[lv2]? = some l2) : (lv2 = lv ∧ l2 = l) ∨ (lv2 ≠ lv ∧ n.kn[lv2]? = some l2) := by
  unfold Nd.setK at h
  simp only at h
  by_cases e : lv2 = lv
  · subst e
    rw [List.getElem?_set] at h
    simp only [if_true] at h
    split at h
    · cases h; exact .inl ⟨rfl, rfl⟩
    · cases h
  · rw [List.getElem?_set_ne (Ne.symm e)] at h
    exact .inr ⟨e, h⟩

theorem KOk.setK {dim links : Int} {g : List (Int × Nd)} (h : KOk dim links g) (hnd : (g.map (·.1)).Nodup) {a : Int} {n : Nd} (hn : getN g a = some n) {lv : Nat} (s : Sl) {l' : List Int} (h1 : ∀ x ∈ l', x ∈ g.map (·.1)) (h2 : (l'.length : Int) ≤ mostI links lv) (h3 : l'.Nodup) (h4 : a ∉ l') :
    KOk dim links (setN g a (n.setK lv s l')) := by
  have hget : ∀ i m, getN (setN g a (n.setK lv s l')) i = some m → (i = a ∧ m = n.setK lv s l') ∨ (i ≠ a ∧ getN g i = some m) := fun i m hm => by
    rw [getN_setN] at hm
    by_cases e : i = a
    · subst e; rw [if_pos rfl, hn] at hm; cases hm; exact .inl ⟨rfl, rfl⟩
    · rw [if_neg e] at hm; exact .inr ⟨e, hm⟩
  refine ⟨h.ok.alike (Alike.setK hn lv s l') hnd fun i m l hm hl x hx => ?_, fun i m lv2 l hm hl => ?_⟩
  · rcases hget i m hm with ⟨rfl, rfl⟩ | ⟨_, hm⟩
    · obtain ⟨k, hk⟩ := List.mem_iff_getElem?.1 hl
      rcases setK_kn hk with ⟨_, rfl⟩ | ⟨_, hk⟩
      · exact h1 x hx
      · exact h.ok.known _ (getN_mem hn) l (List.mem_of_getElem? hk) x hx
    · exact h.ok.known _ (getN_mem hm) l hl x hx
  · rcases hget i m hm with ⟨rfl, rfl⟩ | ⟨_, hm⟩
    · rcases setK_kn hl with ⟨rfl, rfl⟩ | ⟨_, hk⟩
      · exact ⟨h2, h3, h4⟩
      · exact h.many _ _ _ _ hn hk
    · exact h.many _ _ _ _ hm hl

/-- A row comes to know another one: all is as it must be. -/
theorem KOk.know {dim links : Int} {g : List (Int × Nd)} (h : KOk dim links g) (hnd : (g.map (·.1)).Nodup) {a x lv : Int} {n : Nd} (hn : getN g a = some n) (l0 : 0 ≤ lv) (s : Sl) {l l' : List Int} (hl : n.kn[lv.toNat]? = some l) (hk : KnowL links lv l x l')
    (hx : x ∈ g.map (·.1)) (hxa : x ≠ a) (hxl : x ∉ l) : KOk dim links (setN g a (n.setK lv.toNat s l')) := by
  obtain ⟨m1, m2, m3⟩ := h.many a n _ l hn hl
  refine h.setK hnd hn s (fun y hy => ?_) (by rw [Int.toNat_of_nonneg l0]; exact hk.len) (hk.nodup ?_) fun hm => ?_
  · rcases hk.sub y hy with hy | rfl
    · exact h.ok.known _ (getN_mem hn) l (List.mem_of_getElem? hl) y hy
    · exact hx
  · refine List.nodup_append.2 ⟨m2, by simp, fun c hc d hd => ?_⟩
    simp at hd; subst hd; exact fun e => hxl (e ▸ hc)
  · rcases hk.sub a hm with h5 | h5
    · exact m3 h5
    · exact hxa h5.symm

/-- What must be of a tree. -/
structure TOk (T : Tr) : Prop where
  k : KOk T.dim T.links T.g
  links : 1 ≤ T.links ∧ T.links ≤ 16
  entry : (T.g = [] ∧ T.entry = 0) ∨ T.entry ∈ T.g.map (·.1)

theorem In.same {u0 u u' : H} {fp : Nat → Option Tg} {b : Nat} {T : Tr} (h : In u0 u fp b T) (hu : ∀ c o, u c = some o → fp c ≠ none → u' c = some o) (hle : u0.le u') : In u0 u' fp b T :=
  ⟨h.tr.keep (fun _ _ => rfl) hu, hle, h.out, fun c hc => by
    obtain ⟨o, ho⟩ := Option.ne_none_iff_exists'.1 (h.known c hc)
    rw [hu c o ho hc]; simp⟩

/-- A block that is not the tree's, new or written. -/
theorem In.aside {u0 u : H} {fp : Nat → Option Tg} {b : Nat} {T : Tr} (h : In u0 u fp b T) {c : Nat} (hf : fp c = none) (h0 : u0 c = none) (o : Obj) : In u0 (u.ins c o) fp b T :=
  h.same (fun x y hx hfx => by rw [H.ins_other _ _ (fun e => by rw [e] at hfx; exact hfx hf)]; exact hx) fun x y hx => by rw [H.ins_other _ _ (fun e => by rw [e, h0] at hx; cases hx)]; exact h.le x y hx

theorem In.fresh {u0 u : H} {fp : Nat → Option Tg} {b : Nat} {T : Tr} (h : In u0 u fp b T) {c : Nat} (hc : u c = none) : fp c = none := by
  cases e : fp c with
  | none => rfl
  | some t => exact absurd hc (h.known c (by rw [e]; simp))

theorem Turn.none {u u' : H} {fp fp' : Nat → Option Tg} (h : Turn u fp u' fp') {c : Nat} {o : Obj} (hc : u c = some o) (hf : fp c = none) : fp' c = none := by
  cases e : fp' c with
  | none => rfl
  | some t =>
    rcases h.grow c (by rw [e]; simp) with h1 | h1
    · exact absurd hf h1
    · rw [hc] at h1; cases h1

end Go.Proofs.YtpbelkpfljhjlaaGreatDoor

/- VcRangeG -/
namespace Go.Proofs.YtpbelkpfljhjlaaGreatDoor
open Go.RowKit

/-- An iterator's contract, by states: from s0 on it hands over whatever Nx lets it, to where En is. -/
def IterG {α σ : Type} (P : Program) (fv : Value) (enc : α → Value) (Nx : σ → α → σ → Prop) (s0 : σ) (En : σ → Prop) (u : H) : Prop :=
  ∀ (yv : Value) (J : σ → H → Prop), (∀ s v, J s v → u.le v) →
    (∀ s y s' v (K : Bool → H → Prop), Nx s y s' → J s v → (∀ v', J s' v' → K true v') → ClR P yv #[enc y] [.one .bool] v K) →
    ∀ v (K : H → Prop), J s0 v → (∀ s v', En s → J s v' → K v') → ClV P fv #[yv] [] v K

theorem RgS.introG {P : Program} {α σ : Type} {Nx : σ → α → σ → Prop} {s0 : σ} {En : σ → Prop} {t x n : Nat} {assign body : Code} {env : List (Nat × Value)} {u : H} {K : Nat → H → Prop} {enc : α → Value} {fv : Value} {ub : H} (hub : ub.le u)
    (hf : ∀ f args w, (∃ fn, P.funcs[f]? = some fn ∧ fn.body.isSome = true) → (callFunc f args).run P w = .ok (.enter f args) w) (hg : (t, fv) ∈ env) (hx : x < n)
    (hit : ∀ u0, ub.le u0 → IterG P fv enc Nx s0 En u0) (J : σ → H → Prop) (h0 : J s0 u) (hle : ∀ i v, J i v → ub.le v)
    (hbody : ∀ i y i' v, Nx i y i' → J i v → RoundOk P n assign body env x (enc y) v (J i'))
    (hK : ∀ s v D, En s → J s v → v D = none → K D (v.ins D (.deferred (some [])))) : RgS P (.rangeFunc (.tmp t) #[x] assign body) n env u K := by
  intro a w hsz henv hdef hsub
  refine (wpIn_wide (n := 0)).1 (wpIn_rangeFunc ?_)
  intro fn _
  have hev : a.eval (.tmp t) = fv := by
    simp only [Act.eval]; rw [Array.getD_eq_getD_getElem?, henv _ hg]; rfl
  obtain ⟨rec, hrec⟩ : ∃ rec : LoopState → Loop, rec = fun st => { state := st, pending := none, fn, tmps := a.tmps, params := #[x], assign, body, defers := w.heap.size } := ⟨_, rfl⟩
  obtain ⟨W1, hW1⟩ : ∃ W1, (w.alloc (.deferred (some []))).alloc (.loop (rec .ready)) = W1 := ⟨_, rfl⟩
  have hsz1 : W1.heap.size = w.heap.size + 2 := by rw [← hW1]; simp
  have hL1 : W1.heap[w.heap.size + 1]? = some (.loop (rec .ready)) := by
    rw [← hW1]; have := World.alloc_heap_new (w.alloc (.deferred (some []))) (.loop (rec .ready)); rwa [World.size_alloc] at this
  have hK1 : W1.heap[w.heap.size]? = some (.deferred (some [])) := by
    rw [← hW1]; exact (Below.heap_alloc _ _ _ (by simp)).trans (World.alloc_heap_new w _)
  have hold : ∀ b, b < w.heap.size → W1.heap[b]? = w.heap[b]? := fun b hb => by
    rw [← hW1]; exact (Below.heap_alloc _ _ _ (by simp; omega)).trans (Below.heap_alloc _ _ _ hb)
  have hlu : u (w.heap.size + 1) = none := hsub.none (by omega)
  have hDu : u w.heap.size = none := hsub.none (Nat.le_refl _)
  have hlb : ub (w.heap.size + 1) = none := by
    cases hx : ub (w.heap.size + 1) with
    | none => rfl
    | some o => rw [hub _ _ hx] at hlu; cases hlu
  have hule : ub.le (ub.ins (w.heap.size + 1) (.loop (rec .ready))) := H.le_ins _ hlb
  have hsub1 : Sub (u.ins (w.heap.size + 1) (.loop (rec .ready))) W1 := by
    intro b o hb
    unfold H.ins at hb
    split at hb
    · rename_i hbl; subst hbl; cases hb; exact hL1
    · have := hsub b o hb
      have hlt := hsub.lt hb
      rw [hold b hlt]; exact this
  -- the iterator's call
  have hcl := hit _ hule (.func (.yield (w.heap.size + 1)) #[] #[])
    (fun i v => ∃ v0, v = v0.ins (w.heap.size + 1) (.loop (rec .ready)) ∧ v0 (w.heap.size + 1) = none ∧ v0 w.heap.size = none ∧ J i v0)
    (fun i v ⟨v0, hv, _, _, hj⟩ => by rw [hv]; exact H.ins_le (hle i v0 hj) _ _)
    (by
      rintro i y i' v K' hy ⟨v0, rfl, hl0, hD0, hj⟩ hK'
      refine ⟨_, rfl, fun W hW => ?_⟩
      have hlW : W.heap[w.heap.size + 1]? = some (.loop (rec .ready)) := hW _ _ (H.ins_same _ _ _)
      have hlt : w.heap.size + 1 < W.heap.size := (Array.getElem?_eq_some_iff.1 hlW).1
      have hrun : (Instr.yield (w.heap.size + 1) #[enc y]).run P W = .ok (.round (w.heap.size + 1) fn (a.tmps.setIfInBounds x (enc y)) assign body) W := by
        have := run_yield (P := P) (args := #[enc y]) hlW (by rw [hrec]; rfl)
        rw [hrec] at this
        simpa using this
      have hsv0 : Sub v0 W := hW.mono (H.le_ins _ hl0)
      refine ⟨fn, _, assign, body, hrun, roundIn_of_wpIn trivial ?_⟩
      refine wpIn_mono (hbody i y i' v0 hy hj (w.heap.size + 1) _ W ?_ ?_ ?_ rfl hsv0) ?_
      · simpa using hsz
      · intro p hp hpx
        show (a.tmps.setIfInBounds x (enc y))[p.1]? = _
        rw [Array.getElem?_setIfInBounds_ne (Ne.symm hpx)]
        exact henv p hp
      · show (a.tmps.setIfInBounds x (enc y))[x]? = _
        rw [Array.getElem?_setIfInBounds_self]
        simp [hsz, hx]
      · intro e a1 w1 hp
        cases e with
        | normal =>
          obtain ⟨v1, hs1, hb⟩ := hp
          have hlW1 : w1.heap[w.heap.size + 1]? = some (.loop (rec .ready)) := (hs1.rest _ hlt hl0 (by simp)).trans hlW
          have hlt1 : w.heap.size + 1 < w1.heap.size := (Array.getElem?_eq_some_iff.1 hlW1).1
          have hl1 : v1 (w.heap.size + 1) = none := hs1.honest _ hlt hl0
          have hD1 : v1 w.heap.size = none := hs1.honest _ (by omega) hD0
          refine ⟨_, run_beginRound hlW1 (by rw [hrec]), wpIn_mono (hb _ ?_) ?_⟩
          · intro b o hbo
            have hne : b ≠ w.heap.size + 1 := fun e => by rw [e, hl1] at hbo; cases hbo
            exact (World.putObj_heap_other hne).trans (hs1.sub b o hbo)
          · rintro e a2 w3 ⟨rfl, v2, hj2, hs2⟩
            have hlW2 : (w1.putObj (w.heap.size + 1) (.loop { rec .ready with state := .busy })).heap[w.heap.size + 1]? = some (.loop { rec .ready with state := .busy }) := World.putObj_heap_same hlt1
            have hlW3 : w3.heap[w.heap.size + 1]? = some (.loop { rec .ready with state := .busy }) := (hs2.rest _ (by simpa using hlt1) hl1 (by simp)).trans hlW2
            have hlt3 : w.heap.size + 1 < w3.heap.size := (Array.getElem?_eq_some_iff.1 hlW3).1
            have hl2 : v2 (w.heap.size + 1) = none := hs2.honest _ (by simpa using hlt1) hl1
            have hend := run_endRound (P := P) none hlW3
            have erec : ({ { rec .ready with state := LoopState.busy } with state := if (none : Option Code).isNone then .ready else .done, pending := none } : Loop) = rec .ready := by rw [hrec]; rfl
            rw [erec] at hend
            refine ⟨_, _, hend, .bool true, v2.ins (w.heap.size + 1) (.loop (rec .ready)), rfl, ⟨[.bool true], .cons (t := .bool) true .nil, rfl, ?_⟩, ?_⟩
            · exact hK' _ ⟨v2, rfl, hl2, hs2.honest _ (by have := hs1.size; simp; omega) hD1, hj2⟩
            · refine ⟨fun b o hbo => ?_, hs2.os.trans hs1.os, hs2.tape.trans hs1.tape, hs2.output.trans hs1.output, Nat.le_trans hs1.drawn hs2.drawn, ?_, fun b hb hbn _ => ?_, fun b hb hbn => ?_, [], by simp, by simp⟩
              · unfold H.ins at hbo
                split at hbo
                · rename_i hbl; subst hbl; cases hbo; exact World.putObj_heap_same hlt3
                · rename_i hbl; rw [World.putObj_heap_other hbl]; exact hs2.sub b o hbo
              · have h1 := hs1.size
                have h2 := hs2.size
                simp at h2 ⊢
                omega
              · have hne : b ≠ w.heap.size + 1 := fun e => by rw [e, H.ins_same] at hbn; cases hbn
                rw [H.ins_other _ _ hne] at hbn
                have hb1 : b < w1.heap.size := Nat.lt_of_lt_of_le hb hs1.size
                rw [World.putObj_heap_other hne, hs2.rest b (by simpa using hb1) (hs1.honest b hb hbn) (by simp), World.putObj_heap_other hne]
                exact hs1.rest b hb hbn (by simp)
              · have hne : b ≠ w.heap.size + 1 := fun e => by rw [e, H.ins_same] at hbn; cases hbn
                rw [H.ins_other _ _ hne] at hbn ⊢
                exact hs2.honest b (by have := hs1.size; simp; omega) (hs1.honest b hb hbn)
        | _ => exact hp.elim)
    _ (fun v' => ∃ v0, v' = v0.ins (w.heap.size + 1) (.loop (rec .ready)) ∧ v0 (w.heap.size + 1) = none ∧ v0 w.heap.size = none ∧ ∃ s, En s ∧ J s v0) ⟨u, rfl, hlu, hDu, h0⟩ (fun s _ hs ⟨v0, a, b, c, d⟩ => ⟨v0, a, b, c, s, hs, d⟩)
  obtain ⟨gf, cap, hfv, hbf, hcl⟩ := hcl
  rw [hfv] at hev
  refine ⟨w.heap.size + 1, [{ target := .collected w.heap.size, args := #[] }], W1, { target := .fn (.func gf) cap, args := #[.func (.yield (w.heap.size + 1)) #[] #[]] }, W1, gf,
    #[.func (.yield (w.heap.size + 1)) #[] #[]] ++ cap, W1, ?_, ?_, fun _ _ => trivial, ?_, fun h => by simp [Fence.wide] at h, ?_⟩
  · rw [← hW1, hrec]; exact run_enterLoop_outer _ _ _ _ _
  · simp only [resolve, hev]
    simp [go_sem]
  · simp [invoke, go_sem, hf gf _ _ hbf]
  · refine callsIn_wide.2 ((hcl W1 hsub1).mono ?_)
    rintro e w3 ⟨v, u', rfl, ⟨vs, hk, rfl, hc⟩, hs⟩
    cases hk
    obtain ⟨v0, rfl, hl0, hD0, s, hse, hj⟩ : ∃ v0 : H, u' = v0.ins (w.heap.size + 1) (.loop (rec .ready)) ∧ v0 (w.heap.size + 1) = none ∧ v0 w.heap.size = none ∧ ∃ s, En s ∧ J s v0 := hc
    have hlW3 : w3.heap[w.heap.size + 1]? = some (.loop (rec .ready)) := hs.sub _ _ (H.ins_same _ _ _)
    have hDW3 : w3.heap[w.heap.size]? = some (.deferred (some [])) := by
      rw [hs.rest _ (by omega) (by rw [H.ins_other _ _ (by omega)]; exact hDu) (by simp)]; exact hK1
    have hend : (Instr.endLoop (w.heap.size + 1)).run P w3 = .ok none (w3.putObj (w.heap.size + 1) (.loop { rec .ready with state := .exhausted })) := by
      have := run_endLoop (P := P) hlW3 (by rw [hrec]; simp)
      rw [this]
      rw [hrec]
    refine ⟨none, _, hend, rfl, rfl, w.heap.size, _, ?_, hK s v0 w.heap.size hse hj hD0, ?_⟩
    · simp [hdef, dfsOf]
    · have hs3 := hs.size
      refine ⟨fun b o hbo => ?_, ?_, ?_, ?_, ?_, by simp; omega, fun b hb hbn _ => ?_, fun b hb hbn => ?_, [], by simp, by simp⟩
      · unfold H.ins at hbo
        split at hbo
        · rename_i hbl; subst hbl; cases hbo
          rw [World.putObj_heap_other (by omega)]; exact hDW3
        · have hne : b ≠ w.heap.size + 1 := fun e => by rw [e, hl0] at hbo; cases hbo
          rw [World.putObj_heap_other hne]
          exact hs.sub b o (by rw [H.ins_other _ _ hne]; exact hbo)
      · exact hs.os.trans (by rw [← hW1]; rfl)
      · exact hs.tape.trans (by rw [← hW1]; rfl)
      · exact hs.output.trans (by rw [← hW1]; rfl)
      · exact Nat.le_trans (by rw [← hW1]; exact Nat.le_refl _) hs.drawn
      · have hne : b ≠ w.heap.size + 1 := by omega
        rw [World.putObj_heap_other hne, hs.rest b (by omega) (by rw [H.ins_other _ _ hne]; exact hbn) (by simp)]
        exact hold b hb
      · have hne : b ≠ w.heap.size + 1 := by omega
        have := hs.honest b (by omega) (by rw [H.ins_other _ _ hne]; exact hbn)
        rw [H.ins_other _ _ hne] at this
        rw [H.ins_other _ _ (by omega)]; exact this

end Go.Proofs.YtpbelkpfljhjlaaGreatDoor

/- VcKeys -/
namespace Go.Proofs.YtpbelkpfljhjlaaGreatDoor

noncomputable abbrev seqC : Code := rgCode (Tryz.f120.body.getD Go.Code.skip)

theorem seqC_eq : seqC = .rangeFunc (.tmp 6) #[7] (rgA seqC) (rgB seqC) := by kernel_rfl

def encK (x : Int) : Value := .int .i64 x

theorem seq_round (n0 : Nat) (y : Int) (v : H) (J : H → Prop) (env : List (Nat × Value)) (he : (2, Value.pointer (some ⟨n0, 0, none⟩)) ∈ env)
    (h : Exit.normal = Exit.normal ∧ ([] : List (List Value)) = [] ∧ ∃ s : Sl, v.cell? ⟨n0, 0, none⟩ = some (.slice s.a s.n s.c) ∧
          SemT Tryz.prog (Instr.buildSlice 41 1 #[(0, .int .i64 y)]) [.one .slice] v fun (s1 : Sl) u3 =>
            SemT Tryz.prog (Builtin.append_ #[41, 41] 41 #[.slice s.a s.n s.c, .slice s1.a s1.n s1.c]) [.one .slice] u3 fun (s2 : Sl) u4 =>
              H.St u4 ⟨n0, 0, none⟩ [.slice s2.a s2.n s2.c] fun u5 => Exit.normal = Exit.normal ∧ J u5) :
    RoundOk Tryz.prog 13 (rgA seqC) (rgB seqC) env 7 (encK y) v J :=
  RoundOk.of (C := { P := Tryz.prog, exp := [2], wrap := false, eqT := eqT }) (good _ _) (by kernel_rfl) (by kernel_rfl) [(7, .v (encK y)), (2, .ptr ⟨n0, 0, none⟩)] (by
    intro p hp
    rcases List.mem_cons.1 hp with rfl | hp
    · exact ⟨_, rfl, .inl ⟨rfl, rfl⟩⟩
    · rcases List.mem_cons.1 hp with rfl | hp
      · exact ⟨_, rfl, .inr ⟨show (2 : Nat) ≠ 7 by decide, he⟩⟩
      · cases hp) (Eq.mp (by kernel_rfl) h)

/-- A step of a range over a map: one more entry. -/
def NxM (l : List (Int × Value)) (dl : List (Int × Value)) (x : Int) (dl' : List (Int × Value)) : Prop := ∃ v, (x, v) ∈ l ∧ x ∉ dl.map (·.1) ∧ dl' = dl ++ [(x, v)]

theorem collected {l dl : List (Int × Value)} (h : dl.Perm l) : sortI (dl.map (·.1)) = sortI (l.map (·.1)) := sortI_eq (h.map _)

/-- Collected, whatever order the entries come in. -/
theorem spec.slices_Collect_int_ {fv : Value} {l : List (Int × Value)} {u : H} {K : Sl → H → Prop} (hl : l.length ≤ 1000000) (_hnd : (l.map (·.1)).Nodup) (hit : ∀ u0, u.le u0 → IterG Tryz.prog fv encK (NxM l) [] (fun dl => dl.Perm l) u0)
    (hK : ∀ (s : Sl) (dl : List (Int × Value)) (u' : H), dl.Perm l → OwnF u u' 3 1 s ((dl.map (·.1)).flatMap encI) → K s u') : C.slices_Collect_int_ fv u K := by
  apply vc.slices_Collect_int_
  apply vc.slices_AppendSeq___int_int_
  intro n0 hn0
  have hle := H.le_ins (u := u) (b := n0) (.cells #[.slice none 0 0] 41 (0, 0)) hn0
  refine RgS.code seqC_eq (RgS.introG (σ := List (Int × Value)) (t := 6) (enc := encK) (fv := fv) (Nx := NxM l) (s0 := []) (En := fun dl => dl.Perm l) hle callOk (by simp) (by decide) hit
    (fun dl w => (dl.map (·.1)).Nodup ∧ (∀ p ∈ dl, p ∈ l) ∧ ∃ s0 : Sl, w n0 = some (.cells #[.slice s0.a s0.n s0.c] 41 (0, 0)) ∧ OwnF u w 3 1 s0 ((dl.map (·.1)).flatMap encI) ∧ s0.blk ≠ some n0)
    ⟨List.nodup_nil, fun p hp => (by cases hp), ⟨none, 0, 0⟩, H.ins_same _ _ _, OwnF.nil hle _ _, by simp [Sl.blk]⟩ (fun i v ⟨_, _, _, _, ho, _⟩ => ho.le) ?_ ?_)
  · rintro dl y dl' v ⟨z, hz, hny, rfl⟩ ⟨hd1, hd2, s0, hb0, ho0, hne0⟩
    refine seq_round n0 y v _ _ (by simp) ⟨rfl, rfl, s0, H.cell?_of hb0 0, ?_⟩
    have hn0' := ho0.ints.len
    have hdl : dl.length ≤ l.length := by
      have h1 : (dl.map (·.1)).Nodup := hd1
      have h2 : ∀ i ∈ dl.map (·.1), i ∈ l.map (·.1) := fun i hi => by
        obtain ⟨p, hp, rfl⟩ := List.mem_map.1 hi
        exact List.mem_map.2 ⟨p, hd2 p hp, rfl⟩
      have := nodup_len h1 h2
      simpa using this
    simp only [List.length_map] at hn0'
    refine sem_push' tInts (build_int y) (by decide) rfl (by simp [Value.oneCell']) ho0 (by omega) (by omega) fun s2 u4 ho2 hn2 hel hbl _ => st_one (hel _ _ hb0 hne0) rfl ⟨rfl, ?_, ?_, s2, H.ins_same _ _ _, ?_, ?_⟩
    · rw [List.map_append]
      refine List.nodup_append.2 ⟨hd1, by simp, fun a ha b hb => ?_⟩
      simp at hb; subst hb; exact fun e => hny (e ▸ ha)
    · intro p hp
      rcases List.mem_append.1 hp with hp | hp
      · exact hd2 p hp
      · simp at hp; rw [hp]; exact hz
    · have hne2 : s2.blk ≠ some n0 := fun e => by
        rcases hbl n0 e with h | h
        · exact hne0 h
        · rw [hb0] at h; cases h
      have := ho2.insOut hn0 hne2 (.cells #[.slice s2.a s2.n s2.c] 41 (0, 0))
      rw [List.map_append, List.flatMap_append]
      exact this
    · exact fun e => by
        rcases hbl n0 e with h | h
        · exact hne0 h
        · rw [hb0] at h; cases h
  · rintro dl v D hend ⟨hd1, hd2, s0, hb0, ho0, hne0⟩ hD
    have hle2 := H.le_ins (u := v) (b := D) (Obj.deferred (some [])) hD
    have ho1 := ho0.mono hle2
    have hb1 := hle2 _ _ hb0
    refine ⟨s0, H.cell?_of hb1 0, H.ins_same _ _ _, hK _ dl _ hend ?_⟩
    refine ho1.insOut (ho0.le.none hD) (fun e => ?_) _
    have := own_known ho0 e
    exact this hD

/-- Collected and sorted. -/
theorem spec.slices_Sorted_int_ {fv : Value} {l : List (Int × Value)} {u : H} {K : Sl → H → Prop} (hl : l.length ≤ 1000000) (hnd : (l.map (·.1)).Nodup) (hit : ∀ u0, u.le u0 → IterG Tryz.prog fv encK (NxM l) [] (fun dl => dl.Perm l) u0)
    (hK : ∀ s u', OwnF u u' 3 1 s ((sortI (l.map (·.1))).flatMap encI) → K s u') : C.slices_Sorted_int_ fv u K := by
  apply vc.slices_Sorted_int_
  refine spec.slices_Collect_int_ hl hnd hit fun s dl u1 hp ho => ?_
  have hlen := hp.length_eq
  refine spec.slices_Sort___int_int_ ho (by simp; omega) fun u2 ho2 _ => hK _ _ ?_
  rw [collected hp] at ho2
  exact ho2

theorem bKeysN : hasBody Tryz.prog 90 = true := by kernel_rfl
theorem bKeysB : hasBody Tryz.prog 95 = true := by kernel_rfl

/-- The state of a range over a map's keys, in memory. -/
structure KeyI (J : List (Int × Value) → H → Prop) (l : List (Int × Value)) (r b : Nat) (dl : List (Int × Value)) (w : H) : Prop where
  ex : ∃ v0, J dl v0 ∧ v0 r = none ∧ v0.le w ∧ IterAt w r b l dl

theorem iter_len {w : H} {r b : Nat} {l dl : List (Int × Value)} (h : IterAt w r b l dl) : dl.length ≤ l.length := by
  have h2 : ∀ i ∈ dl.map (·.1), i ∈ l.map (·.1) := fun i hi => by
    obtain ⟨p, hp, rfl⟩ := List.mem_map.1 hi
    exact List.mem_map.2 ⟨p, h.sub p hp, rfl⟩
  have := nodup_len h.dn h2
  simpa using this

/-- What a key iterator's body does, told by its rule. -/
theorem keys_body {P : Program} {u v : H} {b : Nat} {l : List (Int × Value)} {yv : Value} {t k e : TypeId} {z : Value} (T : MapTy P t k e z) (h : MapAt u b l)
    (J : List (Int × Value) → H → Prop) (hJ : ∀ s v, J s v → u.le v)
    (hy : ∀ s y s' v (K : Bool → H → Prop), NxM l s y s' → J s v → (∀ v', J s' v' → K true v') → ClR P yv #[encK y] [.one .bool] v K) (h0 : J [] v) {K : H → Prop} (hK : ∀ s v', s.Perm l → J s v' → K v') :
    SemT P (Instr.range t (.map (some b))) [.one .ptr] v fun (p1 : Option Addr) (u2 : H) => ∃ I3 : H → Prop, ∃ I4 : H → Nat, I3 u2 ∧ ∀ u5, I3 u5 → NextT P (.pointer p1) u5 (fun u6 => ∃ u'', u''.le u6 ∧ K u'')
      (fun _ _ u9 => EntT P (.pointer p1) u9 fun v10 _ u12 => UnV (.int .i64) v10 fun (x13 : Int) => ClY P yv #[.int .i64 x13] [.one .bool] u12 fun (b14 : Bool) (u15 : H) =>
        ((¬ (b14 = true)) → ∃ u'', u''.le u15 ∧ K u'') ∧ (b14 = true → I3 u15 ∧ I4 u15 < I4 u5)) := by
  refine sem_range T (h.mono (hJ _ _ h0)) fun r o hr hit0 => ?_
  obtain ⟨ob, hob⟩ : ∃ ob, u b = some ob := by
    obtain ⟨es, c, hb, _⟩ := h
    exact ⟨_, hb⟩
  let N : Nat → H → Prop := fun n w => ∃ dl, KeyI J l r b dl w ∧ l.length - dl.length ≤ n
  refine ⟨fun w => ∃ n, N n w, fun w => least fun n => N n w, ⟨_, [], ⟨v, h0, hr, H.le_ins _ hr, hit0⟩, Nat.le_refl _⟩, ?_⟩
  intro w hw
  have hI := least_is hw
  obtain ⟨n, hn⟩ : ∃ n, (least fun n => N n w) = n := ⟨_, rfl⟩
  dsimp only
  rw [hn] at hI ⊢
  obtain ⟨dl, ⟨v0, hj, hr0, hle, hit⟩, hlen⟩ := hI
  refine nextT_of hit (fun hp => ⟨v0, hle, hK _ _ hp hj⟩) fun p o hp hnp hit2 => ?_
  refine entT_of hit2 ?_
  have hwr : ∃ x, w r = some x := by obtain ⟨es, c, seen, _, _, h3, _⟩ := hit; exact ⟨_, h3⟩
  have hle2 : v0.le (w.ins r o) := fun c x hc => by
    rw [H.ins_other _ _ (fun e => by rw [e, hr0] at hc; cases hc)]; exact hle c x hc
  show ClY P yv #[.int .i64 p.1] [.one .bool] (w.ins r o) _
  refine .inr ((hy dl p.1 (dl ++ [p]) v0 (fun b v' => b = true ∧ J (dl ++ [p]) v') ⟨p.2, hp, hnp, rfl⟩ hj fun v' hv' => ⟨rfl, hv'⟩).frame hle2 ?_)
  rintro bb v0' w' hfr ⟨rfl, hj2⟩
  refine ⟨fun hne => absurd rfl hne, fun _ => ?_⟩
  obtain ⟨hr0', hr'⟩ := hfr.out r o hr0 (H.ins_same _ _ _)
  have hb1 : ∀ x, (w.ins r o) b = some x → w' b = some x := fun x hx => by
    have e1 := hle2 b ob (hJ _ _ hj b ob hob)
    rw [e1] at hx; cases hx
    exact hfr.le b ob (hJ _ _ hj2 b ob hob)
  have hit3 : IterAt w' r b l (dl ++ [p]) := hit2.else hb1 fun x hx => by
    rw [H.ins_same] at hx; cases hx; exact hr'
  have hlen2 := iter_len hit3
  simp only [List.length_append, List.length_singleton] at hlen2
  have hN : N (n - 1) w' := ⟨dl ++ [p], ⟨v0', hj2, hr0', hfr.le, hit3⟩, by simp only [List.length_append, List.length_singleton]; omega⟩
  refine ⟨⟨_, hN⟩, ?_⟩
  have := least_le (P := fun n => N n w') hN
  omega

theorem keysB_iter {u : H} {b n0 : Nat} {l : List (Int × Value)} (T : MapTy Tryz.prog 98 3 4 (.bool false)) (h : MapAt u b l) (hc : u.cell? ⟨n0, 0, none⟩ = some (.map (some b))) :
    IterG Tryz.prog (.func (.func 95) #[] #[.pointer (some ⟨n0, 0, none⟩)]) encK (NxM l) [] (fun dl => dl.Perm l) u := by
  intro yv J hJ hy v K h0 hK
  refine ⟨_, _, rfl, bodyOf bKeysB, ClT.weaken (ss := []) ?_⟩
  exact vc.maps_Keys_map_int_bool_int_bool__1 yv ⟨n0, 0, none⟩ v _ ⟨_, H.cell?_mono (hJ _ _ h0) hc, keys_body T h J hJ hy h0 hK⟩

theorem keysN_iter {u : H} {b n0 : Nat} {l : List (Int × Value)} (T : MapTy Tryz.prog 89 3 86 (.pointer none)) (h : MapAt u b l) (hc : u.cell? ⟨n0, 0, none⟩ = some (.map (some b))) :
    IterG Tryz.prog (.func (.func 90) #[] #[.pointer (some ⟨n0, 0, none⟩)]) encK (NxM l) [] (fun dl => dl.Perm l) u := by
  intro yv J hJ hy v K h0 hK
  refine ⟨_, _, rfl, bodyOf bKeysN, ClT.weaken (ss := []) ?_⟩
  exact vc.maps_Keys_map_hnsw_node__1 yv ⟨n0, 0, none⟩ v _ ⟨_, H.cell?_mono (hJ _ _ h0) hc, keys_body T h J hJ hy h0 hK⟩

theorem boolTy : MapTy Tryz.prog 98 3 4 (.bool false) := ⟨by kernel_rfl, by kernel_rfl, fun _ => by kernel_rfl⟩

/-- The keys of a set, sorted. -/
theorem sorted_keysB {u : H} {b : Nat} {l : List (Int × Value)} {K : Sl → H → Prop} (h : MapAt u b l) (hl : l.length ≤ 1000000) (hK : ∀ s u', OwnF u u' 3 1 s ((sortI (l.map (·.1))).flatMap encI) → K s u') :
    C.maps_Keys_map_int_bool_int_bool_ (some b) u fun fv u1 => C.slices_Sorted_int_ fv u1 K := by
  have hnd : (l.map (·.1)).Nodup := by obtain ⟨_, _, _, he⟩ := h; exact he.nodup
  refine vc.maps_Keys_map_int_bool_int_bool_ (some b) u _ fun n0 hn0 => ?_
  have hle := H.le_ins (u := u) (b := n0) (.cells #[.map (some b)] 98 (0, 0)) hn0
  exact spec.slices_Sorted_int_ hl hnd (fun u0 hu0 => keysB_iter boolTy (h.mono (hle.trans hu0)) (H.cell?_of (hu0 _ _ (H.ins_same _ _ _)) 0)) fun s u' ho => hK s u' (ho.weaken hle)

end Go.Proofs.YtpbelkpfljhjlaaGreatDoor
