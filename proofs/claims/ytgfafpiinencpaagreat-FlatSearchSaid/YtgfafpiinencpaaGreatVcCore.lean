/- Our own words for a proof by weakest preconditions: partial heaps, calls as predicate transformers, symbolic slots. -/
import Derived.WalkKit
namespace Go.Proofs.YtgfafpiinencpaaGreat

/-- A partial heap: what is known of some blocks. -/
abbrev H := Nat → Option Obj

def H.ins (u : H) (b : Nat) (o : Obj) : H := fun x => if x = b then some o else u x

def H.le (u u' : H) : Prop := ∀ b o, u b = some o → u' b = some o

theorem H.le.refl (u : H) : u.le u := fun _ _ h => h
theorem H.le.trans {a b c : H} (h : a.le b) (k : b.le c) : a.le c := fun x o e => k x o (h x o e)
theorem H.le_ins {u : H} {b : Nat} (o : Obj) (h : u b = none) : u.le (u.ins b o) := by
  intro x p e
  unfold H.ins
  split
  · rename_i hx; subst hx; rw [h] at e; cases e
  · exact e
theorem H.le.ins {u u' : H} {b : Nat} (o : Obj) (k : u.le u') (h : u' b = none) : u.le (u'.ins b o) := k.trans (H.le_ins o h)
theorem H.ins_same (u : H) (b : Nat) (o : Obj) : u.ins b o b = some o := by simp [H.ins]
theorem H.ins_other (u : H) {b x : Nat} (o : Obj) (h : x ≠ b) : u.ins b o x = u x := by simp [H.ins, h]

def H.cell? (u : H) (a : Addr) : Option Value :=
  match u a.block with
  | some (.cells c _ _) => if a.spot.isSome then none else c[a.off]?
  | _ => none

/-- The world holds at least what the partial heap says. -/
def Sub (u : H) (w : World) : Prop := ∀ b o, u b = some o → w.heap[b]? = some o

theorem Sub.cell {u : H} {w : World} (h : Sub u w) {a : Addr} {v : Value} (e : u.cell? a = some v) : w.cell? a = some v := by
  unfold H.cell? at e
  unfold World.cell?
  split at e
  · rename_i c t f hb
    rw [h _ _ hb]
    exact e
  · cases e

theorem Sub.none {u : H} {w : World} (h : Sub u w) {b : Nat} (hb : w.heap.size ≤ b) : u b = none := by
  cases e : u b with
  | none => rfl
  | some o =>
    have := h _ _ e
    rw [Array.getElem?_eq_none hb] at this
    cases this

theorem Sub.lt {u : H} {w : World} (h : Sub u w) {b : Nat} {o : Obj} (e : u b = some o) : b < w.heap.size := by
  rcases Nat.lt_or_ge b w.heap.size with k | k
  · exact k
  · rw [h.none k] at e; cases e

theorem Sub.mono {u u' : H} {w : World} (h : Sub u' w) (k : u.le u') : Sub u w := fun b o e => h b o (k b o e)

/-- How a step of a call turns the world: u, u': what is known; bs, bs': blocks of one's own that nobody else knows. -/
structure Step (u : H) (bs : List Nat) (w : World) (u' : H) (bs' : List Nat) (w' : World) : Prop where
  sub : Sub u' w'
  os : w'.os = w.os
  tape : w'.tape = w.tape
  output : w'.output = w.output
  drawn : w.drawn ≤ w'.drawn
  size : w.heap.size ≤ w'.heap.size
  rest : ∀ b, b < w.heap.size → u b = none → b ∉ bs → w'.heap[b]? = w.heap[b]?
  honest : ∀ b, b < w.heap.size → u b = none → u' b = none
  more : ∃ ext, bs' = bs ++ ext ∧ ∀ b ∈ ext, w.heap.size ≤ b

theorem Step.refl {u : H} {bs : List Nat} {w : World} (h : Sub u w) : Step u bs w u bs w :=
  ⟨h, rfl, rfl, rfl, Nat.le_refl _, Nat.le_refl _, fun _ _ _ _ => rfl, fun _ _ e => e, [], by simp, by simp⟩

theorem Step.trans {u u' u'' : H} {bs bs' bs'' : List Nat} {w w' w'' : World} (h : Step u bs w u' bs' w') (k : Step u' bs' w' u'' bs'' w'') : Step u bs w u'' bs'' w'' := by
  obtain ⟨e1, he1, hl1⟩ := h.more
  obtain ⟨e2, he2, hl2⟩ := k.more
  refine ⟨k.sub, k.os.trans h.os, k.tape.trans h.tape, k.output.trans h.output, Nat.le_trans h.drawn k.drawn, Nat.le_trans h.size k.size, ?_, ?_, e1 ++ e2, by rw [he2, he1, List.append_assoc], ?_⟩
  · intro b hb hu hn
    rw [k.rest b (Nat.lt_of_lt_of_le hb h.size) (h.honest b hb hu) ?_, h.rest b hb hu hn]
    rw [he1]
    simp only [List.mem_append, not_or]
    exact ⟨hn, fun hm => by have := hl1 b hm; omega⟩
  · intro b hb hu
    exact k.honest b (Nat.lt_of_lt_of_le hb h.size) (h.honest b hb hu)
  · intro b hb
    rcases List.mem_append.1 hb with hb | hb
    · exact hl1 b hb
    · exact Nat.le_trans h.size (hl2 b hb)

/-- Whoever draws turns nothing. -/
theorem Step.draws {u : H} {bs : List Nat} {w : World} (h : Sub u w) {n : Nat} (hn : w.drawn ≤ n) : Step u bs w u bs { w with drawn := n } :=
  ⟨h, rfl, rfl, rfl, hn, Nat.le_refl _, fun _ _ _ _ => rfl, fun _ _ e => e, [], by simp, by simp⟩

/-- A call of function f: whatever the world, if it holds what u says, the call returns, and K holds of the result and of what is known then. -/
def Cl (P : Program) (f : FuncId) (args : Array Value) (u : H) (K : Value → H → Prop) : Prop :=
  ∀ w, Sub u w → Calls P f args w fun e w' => ∃ v u', e = .returned v ∧ K v u' ∧ Step u [] w u' [] w'

theorem Cl.mono {P : Program} {f : FuncId} {args : Array Value} {u : H} {K K' : Value → H → Prop} (h : Cl P f args u K) (hk : ∀ v u', K v u' → K' v u') : Cl P f args u K' :=
  fun w hw => (h w hw).mono fun _ _ ⟨v, u', e, k, s⟩ => ⟨v, u', e, hk v u' k, s⟩

/-- A value that an operation of the model's works out. -/
def SemF (P : Program) (m : Sem Value) (u : H) (K : Value → H → Prop) : Prop :=
  ∀ w, Sub u w → ∃ v w' u', m.run P w = .ok v w' ∧ K v u' ∧ Step u [] w u' [] w'

theorem SemF.mono {P : Program} {m : Sem Value} {u : H} {K K' : Value → H → Prop} (h : SemF P m u K) (hk : ∀ v u', K v u' → K' v u') : SemF P m u K' :=
  fun w hw => let ⟨v, w', u', e, k, s⟩ := h w hw; ⟨v, w', u', e, hk v u' k, s⟩

/-! ### kinds of cells, and functions of so many -/

inductive CT where
  | int (k : IntKind) | bool | str | ptr | slice | map | val | addr

/-- A slice's value. -/
structure Sl where
  a : Option Addr
  n : Nat
  c : Nat

@[reducible] def Sl.v (s : Sl) : Value := .slice s.a s.n s.c

def CT.den : CT → Type
  | .int _ => Int
  | .bool => Bool
  | .str => ByteArray
  | .ptr => Option Addr
  | .slice => Sl
  | .map => Option Nat
  | .val => Value
  | .addr => Addr

def CT.enc : (t : CT) → t.den → Value
  | .int k, n => .int k n
  | .bool, b => .bool b
  | .str, s => .string s
  | .ptr, p => .pointer p
  | .slice, s => .slice s.a s.n s.c
  | .map, r => .map r
  | .val, v => v
  | .addr, p => .pointer (some p)

def kEq (a b : IntKind) : Bool := a.bits == b.bits && a.signed == b.signed
theorem kEq_eq {a b : IntKind} (h : kEq a b = true) : a = b := by cases a <;> cases b <;> first | rfl | (revert h; decide)

/-- What a value is, if it is of this kind. -/
def CT.un : (t : CT) → Value → (t.den → Prop) → Prop
  | .int k, .int k' n, f => match kEq k' k with | true => f n | false => False
  | .bool, .bool b, f => f b
  | .str, .string s, f => f s
  | .ptr, .pointer p, f => f p
  | .slice, .slice a n c, f => f ⟨a, n, c⟩
  | .map, .map r, f => f r
  | .val, v, f => f v
  | .addr, .pointer (some p), f => f p
  | _, _, _ => False

theorem CT.un_spec {t : CT} {v : Value} {f : t.den → Prop} (h : t.un v f) : ∃ x, v = t.enc x ∧ f x := by
  by_cases ha : t = .addr
  · subst ha
    cases v <;> simp only [CT.un] at h <;> try contradiction
    rename_i p
    cases p with
    | none => exact h.elim
    | some p => exact ⟨p, rfl, h⟩
  cases t <;> (try exact absurd rfl ha) <;> cases v <;> simp only [CT.un] at h <;> try contradiction
  case int.int k k' n =>
    split at h
    · rename_i e; have := kEq_eq e; subst this; exact ⟨n, rfl, h⟩
    · exact h.elim
  all_goals exact ⟨_, rfl, h⟩

theorem kEq_self (k : IntKind) : kEq k k = true := by cases k <;> rfl

theorem CT.un_enc (t : CT) (x : t.den) (f : t.den → Prop) : t.un (t.enc x) f ↔ f x := by
  cases t <;> first | exact Iff.rfl | simp [CT.un, CT.enc, kEq_self]

def Cur : List CT → Type → Type
  | [], R => R
  | t :: ts, R => t.den → Cur ts R

def lamC {R : Type} : (ts : List CT) → (List Value → R) → Cur ts R
  | [], f => f []
  | t :: ts, f => fun x => lamC ts fun vs => f (t.enc x :: vs)

def allC : (ts : List CT) → (List Value → Prop) → Prop
  | [], f => f []
  | t :: ts, f => ∀ x : t.den, allC ts fun vs => f (t.enc x :: vs)

def unC {R : Type} : (ts : List CT) → Cur ts R → List Value → (R → Prop) → Prop
  | [], I, [], f => f I
  | t :: ts, I, v :: vs, f => t.un v fun x => unC ts (I x) vs f
  | _, _, _, _ => False

/-- Values of just these kinds. -/
inductive Kinds : List CT → List Value → Prop
  | nil : Kinds [] []
  | cons {t : CT} {ts : List CT} (x : t.den) {vs : List Value} : Kinds ts vs → Kinds (t :: ts) (t.enc x :: vs)

theorem unC_kinds {R : Type} {ts : List CT} {I : Cur ts R} {vs : List Value} {f : R → Prop} (h : unC ts I vs f) : Kinds ts vs := by
  induction ts generalizing vs with
  | nil => cases vs with
    | nil => exact .nil
    | cons => simp [unC] at h
  | cons t ts ih => cases vs with
    | nil => simp [unC] at h
    | cons v vs =>
      simp only [unC] at h
      obtain ⟨x, rfl, hx⟩ := CT.un_spec h
      exact .cons x (ih hx)

theorem allC_of {ts : List CT} {f : List Value → Prop} (h : allC ts f) {vs : List Value} (k : Kinds ts vs) : f vs := by
  induction k generalizing f with
  | nil => exact h
  | cons x _ ih => exact ih (f := fun vs => f (CT.enc _ x :: vs)) (h x)

/-- The value that I has at these. -/
theorem unC_val {R : Type} {ts : List CT} (I : Cur ts R) {vs : List Value} (k : Kinds ts vs) : ∃ r, ∀ f : R → Prop, unC ts I vs f ↔ f r := by
  induction k with
  | nil => exact ⟨I, fun f => Iff.rfl⟩
  | cons x _ ih =>
    obtain ⟨r, hr⟩ := ih (I x)
    exact ⟨r, fun f => by simp only [unC, CT.un_enc]; exact hr f⟩

theorem unC_lamC {R : Type} {ts : List CT} {g : List Value → R} {vs : List Value} (k : Kinds ts vs) (f : R → Prop) : unC ts (lamC ts g) vs f ↔ f (g vs) := by
  induction k generalizing g with
  | nil => exact Iff.rfl
  | cons x _ ih => simp only [unC, CT.un_enc, lamC]; exact ih

/-! ### results -/

/-- One result: a cell, or a struct of cells. -/
inductive Sh where
  | one (t : CT)
  | agg (ts : List CT)

def Sh.cts : Sh → List CT
  | .one t => [t]
  | .agg ts => ts

/-- A result's value out of its cells; and the cells that are left. -/
def Sh.take : Sh → List Value → Value × List Value
  | .one _, v :: vs => (v, vs)
  | .one _, [] => (.tuple #[], [])
  | .agg ts, vs => (.agg (vs.take ts.length).toArray, vs.drop ts.length)

def encShs : List Sh → List Value → List Value
  | [], _ => []
  | s :: ss, vs => (s.take vs).1 :: encShs ss (s.take vs).2

def encRes (ss : List Sh) (vs : List Value) : Value :=
  match encShs ss vs with
  | [v] => v
  | l => .tuple l.toArray

def ctsOf : List Sh → List CT
  | [] => []
  | s :: ss => s.cts ++ ctsOf ss

/-- A call whose results are of these kinds. -/
def ClT (P : Program) (f : FuncId) (args : Array Value) (ss : List Sh) (u : H) (K : Cur (ctsOf ss) (H → Prop)) : Prop :=
  Cl P f args u fun v u' => ∃ vs, Kinds (ctsOf ss) vs ∧ v = encRes ss vs ∧ unC (ctsOf ss) K vs fun r => r u'

def SemT (P : Program) (m : Sem Value) (ss : List Sh) (u : H) (K : Cur (ctsOf ss) (H → Prop)) : Prop :=
  SemF P m u fun v u' => ∃ vs, Kinds (ctsOf ss) vs ∧ v = encRes ss vs ∧ unC (ctsOf ss) K vs fun r => r u'

end Go.Proofs.YtgfafpiinencpaaGreat
