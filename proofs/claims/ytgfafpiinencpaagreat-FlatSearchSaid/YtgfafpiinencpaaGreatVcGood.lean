/- What the rules ask of this program, shown. -/
import Derived.Test.YtgfafpiinencpaaGreatVcCode
import Derived.Test.YtgfafpiinencpaaGreatProg
import Derived.Laws.StructEq
import Derived.ChangeKeysEq
import Derived.KernelRfl
namespace Go.Proofs.YtgfafpiinencpaaGreat

/-- A value of a type out of its cells. -/
def mkV (P : Program) (t : TypeId) (l : List Value) : Value :=
  match aggOf P t with
  | true => .agg l.toArray
  | false => l.headD undef

def flatF (P : Program) (k : TypeId → Option Nat) : Nat → List Field → Option Nat
  | i, [] => some i
  | i, f :: r => match f.name != "_", Nat.beq f.offset i, k f.type, sizeOfT P f.type with
    | true, true, some w, some w' => match Nat.beq w w' with
      | true => flatF P k (i + w) r
      | false => none
    | _, _, _, _ => none

/-- Of how many whole numbers a type is made, if of nothing else. -/
def flatT (P : Program) : Nat → TypeId → Option Nat
  | 0, _ => none
  | d + 1, t => match P.underlying t with
    | some (.int _) => some 1
    | some (.struct fs) => match P.stoodInHeld t with
      | true => none
      | false => flatF P (flatT P d) 0 fs.toList
    | _ => none

def eqVB : Value → Value → Bool
  | .int _ a, .int _ b => decide (a = b)
  | _, _ => false

def eqB : List Value → List Value → Bool
  | [], [] => true
  | x :: xs, y :: ys => eqVB x y && eqB xs ys
  | _, _ => false

def pairs : List Value → List Value → Bool
  | [], [] => true
  | .int k _ :: xs, .int k' _ :: ys => kEq k k' && pairs xs ys
  | _, _ => false

theorem eqCells_B : ∀ (l m : List Value) (z : PD), eqCells l m = some z → pairs l m = true ∧ @decide z.p z.d = eqB l m := by
  have one : ∀ x y z, eqCell x y = some z → ∃ k a b, x = .int k a ∧ y = .int k b ∧ @decide z.p z.d = decide (a = b) := by
    intro x y z h
    unfold eqCell at h
    split at h
    · rename_i k a k' b
      split at h
      · rename_i hk
        have := kEq_eq hk
        subst this
        cases h
        exact ⟨_, _, _, rfl, rfl, rfl⟩
      · cases h
    · cases h
  intro l
  induction l with
  | nil =>
    intro m z h
    cases m with
    | nil => simp only [eqCells, Option.some.injEq] at h; subst h; exact ⟨rfl, rfl⟩
    | cons => simp [eqCells] at h
  | cons x l ih =>
    intro m z h
    cases m with
    | nil => cases l <;> simp [eqCells] at h
    | cons y m =>
      by_cases hlm : l = [] ∧ m = []
      · obtain ⟨rfl, rfl⟩ := hlm
        simp only [eqCells] at h
        obtain ⟨k, a, b, rfl, rfl, hd⟩ := one _ _ _ h
        refine ⟨by simp [pairs, kEq_self], ?_⟩
        rw [hd]; simp [eqB, eqVB]
      · have h' : (match eqCell x y, eqCells l m with
            | some a, some b => some ⟨a.p ∧ b.p, @instDecidableAnd a.p b.p a.d b.d⟩
            | _, _ => (none : Option PD)) = some z := by
          cases l with
          | nil => cases m with
            | nil => exact absurd ⟨rfl, rfl⟩ hlm
            | cons => exact h
          | cons => exact h
        split at h'
        · rename_i a b ha hb
          obtain ⟨k, a1, b1, rfl, rfl, hd⟩ := one _ _ _ ha
          obtain ⟨h1, h2⟩ := ih m b hb
          cases h'
          refine ⟨by simp [pairs, kEq_self, h1], ?_⟩
          simp only [eqB, eqVB, ← h2, ← hd]
          obtain ⟨ap, ad⟩ := a
          obtain ⟨bp, bd⟩ := b
          by_cases e1 : ap <;> by_cases e2 : bp <;> simp [e1, e2]
        · cases h'

theorem pairs_take : ∀ (n : Nat) (l m : List Value), pairs l m = true → pairs (l.take n) (m.take n) = true ∧ pairs (l.drop n) (m.drop n) = true ∧ eqB l m = (eqB (l.take n) (m.take n) && eqB (l.drop n) (m.drop n)) := by
  intro n
  induction n with
  | zero => intro l m h; exact ⟨rfl, h, by simp [eqB]⟩
  | succ n ih =>
    intro l m h
    cases l with
    | nil => cases m with
      | nil => exact ⟨rfl, rfl, rfl⟩
      | cons => simp [pairs] at h
    | cons x l => cases m with
      | nil => cases x <;> simp [pairs] at h
      | cons y m =>
        cases x <;> cases y <;> simp only [pairs, Bool.false_eq_true] at h
        rw [Bool.and_eq_true] at h
        obtain ⟨h1, h2, h3⟩ := ih l m h.2
        refine ⟨by simp [pairs, h.1, h1], h2, ?_⟩
        simp only [List.take_succ_cons, List.drop_succ_cons, eqB, h3, Bool.and_assoc]

theorem part_flat {P : Program} {t : TypeId} {w : Nat} {xs : Array Value} {off : Nat} (hs : sizeOfT P t = some w) (hu : (P.underlying t).isSome = true) (hl : aggOf P t = false → 1 = w) (hb : off + w ≤ xs.size) (W : World) :
    (part t xs off).run P W = .ok (mkV P t ((xs.toList.drop off).take w)) W := by
  obtain ⟨d, hd⟩ := Option.isSome_iff_exists.1 hu
  unfold sizeOfT at hs
  cases hi : P.info? t with
  | none => rw [hi] at hs; cases hs
  | some i =>
    rw [hi] at hs
    cases hs
    have hsz : (sizeOf t).run P W = .ok i.size W := by simp [sizeOf, run_typeInfo W hi]
    cases hg : aggOf P t with
    | true =>
      have : (isAgg t).run P W = .ok true W := by
        unfold aggOf at hg
        rw [hd] at hg
        cases d <;> simp only [Bool.false_eq_true] at hg <;> simp [isAgg, run_underlying hd]
      simp only [part, Sem.run_bind, this, Result.andThen_ok, if_true, hsz, mkV, hg]
      simp only [Sem.run_pure]
      congr 2
      apply Array.toList_inj.1
      simp [Array.toList_extract, List.extract_eq_take_drop]
    | false =>
      have h1 : 1 = i.size := hl hg
      have hlt : off < xs.size := by have : off + i.size ≤ xs.size := hb; omega
      have : (isAgg t).run P W = .ok false W := by
        unfold aggOf at hg
        rw [hd] at hg
        cases d <;> simp only [Bool.true_eq_false] at hg <;> simp [isAgg, run_underlying hd]
      simp only [part, Sem.run_bind, this, Result.andThen_ok, Bool.false_eq_true, if_false, mkV, hg]
      rw [Array.getElem?_eq_getElem hlt]
      simp only [Sem.run_pure]
      congr 1
      rw [← h1, List.drop_eq_getElem_cons (by simpa using hlt)]
      simp

theorem flatT_agg {P : Program} {d : Nat} {t : TypeId} {n : Nat} (h : flatT P d t = some n) : (P.underlying t).isSome = true ∧ (aggOf P t = false → 1 = n) := by
  cases d with
  | zero => simp [flatT] at h
  | succ d =>
    simp only [flatT] at h
    split at h
    · rename_i hu; cases h; exact ⟨by rw [hu]; rfl, fun _ => rfl⟩
    · rename_i hu; exact ⟨by rw [hu]; rfl, fun e => by simp [aggOf, hu] at e⟩
    · cases h

theorem equalIn_flat {P : Program} (W : World) : ∀ (d : Nat) (t : TypeId) (n e : Nat) (l m : List Value), flatT P d t = some n → l.length = n → m.length = n → pairs l m = true →
    (Op.equalIn (d + e) t (mkV P t l) (mkV P t m)).run P W = .ok (eqB l m) W := by
  intro d
  induction d with
  | zero => intro t n e l m h; simp [flatT] at h
  | succ d ih =>
    intro t n e l m h hl hm hp
    rw [show d + 1 + e = (d + e) + 1 by omega]
    simp only [flatT] at h
    split at h
    · rename_i k hu
      cases h
      have hg : aggOf P t = false := by simp [aggOf, hu]
      match l, m, hl, hm with
      | [x], [y], _, _ =>
        cases x <;> cases y <;> simp only [pairs, Bool.false_eq_true] at hp
        rw [Bool.and_eq_true] at hp
        have := kEq_eq hp.1
        subst this
        simp only [mkV, hg, List.headD_cons]
        rw [run_equalIn_int W (d + e) t _ k _ _ hu]
        simp [eqB, eqVB, BEq.beq]
    · rename_i fs hu
      split at h
      · cases h
      · rename_i hs
        have hg : aggOf P t = true := by simp [aggOf, hu]
        have hF : P.fieldsOf t = fs := by simp [Program.fieldsOf, hu]
        simp only [mkV, hg]
        rw [run_equalIn_struct W (d + e) t _ _ (by rw [hF]; exact hu) hs, hF]
        have key : ∀ (fl : List Field) (i : Nat), flatF P (flatT P d) i fl = some n → i ≤ n → pairs (l.drop i) (m.drop i) = true →
            (Op.eqFields (d + e) l.toArray m.toArray fl).run P W = .ok (eqB (l.drop i) (m.drop i)) W := by
          intro fl
          induction fl with
          | nil =>
            intro i hi hle hpi
            simp only [flatF, Option.some.injEq] at hi
            subst hi
            rw [List.drop_of_length_le (by omega), List.drop_of_length_le (by omega)]
            simp [Op.eqFields, eqB]
          | cons f fl ihf =>
            intro i hi hle hpi
            simp only [flatF] at hi
            split at hi
            · rename_i w w' hn ho hk hsz
              split at hi
              · rename_i hww
                have hww := Nat.eq_of_beq_eq_true hww
                subst hww
                have ho := Nat.eq_of_beq_eq_true ho
                have hne : f.name ≠ "_" := by simpa using hn
                have hmon : ∀ (fl : List Field) (j : Nat), flatF P (flatT P d) j fl = some n → j ≤ n := by
                  intro fl
                  induction fl with
                  | nil => intro j hj; simp only [flatF, Option.some.injEq] at hj; omega
                  | cons g fl ihg =>
                    intro j hj
                    simp only [flatF] at hj
                    split at hj
                    · split at hj
                      · have := ihg _ hj; omega
                      · cases hj
                    · cases hj
                have hle2 := hmon fl _ hi
                obtain ⟨hus, hag⟩ := flatT_agg hk
                have hp1 := part_flat (xs := l.toArray) (off := f.offset) hsz hus hag (by simp; omega) W
                have hp2 := part_flat (xs := m.toArray) (off := f.offset) hsz hus hag (by simp; omega) W
                obtain ⟨ht1, ht2, ht3⟩ := pairs_take w _ _ hpi
                have hq := ih f.type w e ((l.drop i).take w) ((m.drop i).take w) hk (by simp; omega) (by simp; omega) ht1
                rw [ho] at hp1 hp2
                simp only [Op.eqFields, if_pos hne, ho, Sem.run_bind, hp1, hp2, Result.andThen_ok, hq]
                rw [ht3]
                have hr := ihf (i + w) hi hle2 (by rw [← List.drop_drop, ← List.drop_drop]; exact ht2)
                rw [← List.drop_drop, ← List.drop_drop] at hr
                cases eqB ((l.drop i).take w) ((m.drop i).take w) with
                | true => simpa using hr
                | false => simp
              · cases hi
            · cases hi
        exact key fs.toList 0 h (Nat.zero_le _) hp
    · cases h

def flatB (P : Program) (t n : Nat) : Bool :=
  match flatT P 10 t with
  | some k => Nat.beq k n && !P.eqGuardType P.depth t && aggOf P t
  | none => false

theorem eq_flat {P : Program} {t n : Nat} (h : flatB P t n = true) (xs ys : Array Value) (z : PD) (h1 : xs.toList.length = n) (h2 : ys.toList.length = n) (he : eqCells xs.toList ys.toList = some z) (x y : Operand) (w : World) :
    (eqGuard .eql t x y (.agg xs) (.agg ys)).run P w = .ok () w ∧ (eqGuard .neq t x y (.agg xs) (.agg ys)).run P w = .ok () w ∧
    (Op.equal t (.agg xs) (.agg ys)).run P w = .ok (@decide z.p z.d) w := by
  unfold flatB at h
  split at h
  · rename_i k hk
    simp only [Bool.and_eq_true, Bool.not_eq_true'] at h
    obtain ⟨⟨hl, hg⟩, ha⟩ := h
    have hl := Nat.eq_of_beq_eq_true hl
    subst hl
    obtain ⟨hp, hd⟩ := eqCells_B _ _ _ he
    refine ⟨run_eqGuard_agg w .eql t x y xs ys hg, run_eqGuard_agg w .neq t x y xs ys hg, ?_⟩
    have := equalIn_flat w 10 t k 9990 _ _ hk h1 h2 hp
    simp only [mkV, ha] at this
    rw [hd]
    exact this
  · cases h

/-- No function of this name. -/
def noNamed (P : Program) : Bool := P.funcs.toList.all fun fn => (fn.name == "runtime.NumGoroutine") == false

theorem noNamed_spec {P : Program} (h : noNamed P = true) (f : FuncId) (fn : Func) (e : P.funcs[f]? = some fn) : (fn.name == "runtime.NumGoroutine") = false := by
  have := List.all_eq_true.1 h fn (Array.mem_toList_iff.2 (Array.mem_of_getElem? e))
  simpa using this

theorem eqN_mem {l : List (Nat × Nat)} {t n : Nat} (h : eqN l t = some n) : (t, n) ∈ l := by
  induction l with
  | nil => cases h
  | cons p r ih =>
    obtain ⟨a, b⟩ := p
    simp only [eqN] at h
    split at h
    · rename_i e; have := Nat.eq_of_beq_eq_true e; subst this; cases h; exact .head _
    · exact .tail _ (ih h)

theorem good_of {P : Program} {eqT : List (Nat × Nat)} (h1 : noNamed P = true) (h2 : P.follows .mixedOrders = true) (h3 : (eqT.all fun p => flatB P p.1 p.2) = true) (exp : List Nat) (wrap : Bool) :
    Good { P := P, exp := exp, wrap := wrap, eqT := eqT } :=
  ⟨noNamed_spec h1, h2, fun _ _ h xs ys z l1 l2 he x y w => eq_flat (List.all_eq_true.1 h3 _ (eqN_mem h)) xs ys z l1 l2 he x y w⟩

end Go.Proofs.YtgfafpiinencpaaGreat
