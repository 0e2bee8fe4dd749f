/- Texts of mine, joined by merge.py: VcCore, VcOps, VcStep, VcSound, VcSound2, VcStepT, VcDraw, VcAny. -/
import Derived.WalkKit
import Derived.Orders
import Derived.RangeFuncSeq
import Derived.TacticsIn
import Derived.OrdersHeld
set_option maxRecDepth 100000

/- VcCore -/
namespace Go.Proofs.YtbohcdjoglidhaaGreatDoor

/-- A partial heap: what is known of some blocks. -/
abbrev H := Nat → Option Obj

def H.ins (u : H) (b : Nat) (o : Obj) : H := fun x => if x = b then some o else u x

def H.le (u u' : H) : Prop := ∀ b o, u b = some o → u' b = some o

theorem H.le.refl (u : H) : u.le u := fun _ _ h => h
theorem H.le.trans {a b c : H} (h : a.le b) (k : b.le c) : a.le c := fun x o e => k x o (h x o e)
theorem H.le_ins {u : H} {b : Nat} (o : Obj) (h : u b = none) : u.le (u.ins b o) := by
  intro x p e
  unfold H.ins
  split
  · rename_i hx; subst hx; rw [h] at e; cases e
  · exact e
theorem H.le.ins {u u' : H} {b : Nat} (o : Obj) (k : u.le u') (h : u' b = none) : u.le (u'.ins b o) := k.trans (H.le_ins o h)
theorem H.ins_same (u : H) (b : Nat) (o : Obj) : u.ins b o b = some o := by simp [H.ins]
theorem H.ins_other (u : H) {b x : Nat} (o : Obj) (h : x ≠ b) : u.ins b o x = u x := by simp [H.ins, h]

def H.cell? (u : H) (a : Addr) : Option Value :=
  match u a.block with
  | some (.cells c _ _) => if a.spot.isSome then none else c[a.off]?
  | _ => none

/-- The world holds at least what the partial heap says. -/
def Sub (u : H) (w : World) : Prop := ∀ b o, u b = some o → w.heap[b]? = some o

theorem Sub.cell {u : H} {w : World} (h : Sub u w) {a : Addr} {v : Value} (e : u.cell? a = some v) : w.cell? a = some v := by
  unfold H.cell? at e
  unfold World.cell?
  split at e
  · rename_i c t f hb
    rw [h _ _ hb]
    exact e
  · cases e

theorem Sub.none {u : H} {w : World} (h : Sub u w) {b : Nat} (hb : w.heap.size ≤ b) : u b = none := by
  cases e : u b with
  | none => rfl
  | some o =>
    have := h _ _ e
    rw [Array.getElem?_eq_none hb] at this
    cases this

theorem Sub.lt {u : H} {w : World} (h : Sub u w) {b : Nat} {o : Obj} (e : u b = some o) : b < w.heap.size := by
  rcases Nat.lt_or_ge b w.heap.size with k | k
  · exact k
  · rw [h.none k] at e; cases e

theorem Sub.mono {u u' : H} {w : World} (h : Sub u' w) (k : u.le u') : Sub u w := fun b o e => h b o (k b o e)

/-- How a step of a call turns the world: u, u': what is known; bs, bs': blocks of one's own that nobody else knows. -/
structure Step (u : H) (bs : List Nat) (w : World) (u' : H) (bs' : List Nat) (w' : World) : Prop where
  sub : Sub u' w'
  os : w'.os = w.os
  tape : w'.tape = w.tape
  output : w'.output = w.output
  drawn : w.drawn ≤ w'.drawn
  size : w.heap.size ≤ w'.heap.size
  rest : ∀ b, b < w.heap.size → u b = none → b ∉ bs → w'.heap[b]? = w.heap[b]?
  honest : ∀ b, b < w.heap.size → u b = none → u' b = none
  more : ∃ ext, bs' = bs ++ ext ∧ ∀ b ∈ ext, w.heap.size ≤ b

theorem Step.refl {u : H} {bs : List Nat} {w : World} (h : Sub u w) : Step u bs w u bs w :=
  ⟨h, rfl, rfl, rfl, Nat.le_refl _, Nat.le_refl _, fun _ _ _ _ => rfl, fun _ _ e => e, [], by simp, by simp⟩

theorem Step.trans {u u' u'' : H} {bs bs' bs'' : List Nat} {w w' w'' : World} (h : Step u bs w u' bs' w') (k : Step u' bs' w' u'' bs'' w'') : Step u bs w u'' bs'' w'' := by
  obtain ⟨e1, he1, hl1⟩ := h.more
  obtain ⟨e2, he2, hl2⟩ := k.more
  refine ⟨k.sub, k.os.trans h.os, k.tape.trans h.tape, k.output.trans h.output, Nat.le_trans h.drawn k.drawn, Nat.le_trans h.size k.size, ?_, ?_, e1 ++ e2, by rw [he2, he1, List.append_assoc], ?_⟩
  · intro b hb hu hn
    rw [k.rest b (Nat.lt_of_lt_of_le hb h.size) (h.honest b hb hu) ?_, h.rest b hb hu hn]
    rw [he1]
    simp only [List.mem_append, not_or]
    exact ⟨hn, fun hm => by have := hl1 b hm; omega⟩
  · intro b hb hu
    exact k.honest b (Nat.lt_of_lt_of_le hb h.size) (h.honest b hb hu)
  · intro b hb
    rcases List.mem_append.1 hb with hb | hb
    · exact hl1 b hb
    · exact Nat.le_trans h.size (hl2 b hb)

/-- Whoever draws turns nothing. -/
theorem Step.draws {u : H} {bs : List Nat} {w : World} (h : Sub u w) {n : Nat} (hn : w.drawn ≤ n) : Step u bs w u bs { w with drawn := n } :=
  ⟨h, rfl, rfl, rfl, hn, Nat.le_refl _, fun _ _ _ _ => rfl, fun _ _ e => e, [], by simp, by simp⟩

/-- A call of function f: whatever the world, if it holds what u says, the call returns, and K holds of the result and of what is known then. -/
def Cl (P : Program) (f : FuncId) (args : Array Value) (u : H) (K : Value → H → Prop) : Prop :=
  ∀ w, Sub u w → Calls P f args w fun e w' => ∃ v u', e = .returned v ∧ K v u' ∧ Step u [] w u' [] w'

theorem Cl.mono {P : Program} {f : FuncId} {args : Array Value} {u : H} {K K' : Value → H → Prop} (h : Cl P f args u K) (hk : ∀ v u', K v u' → K' v u') : Cl P f args u K' :=
  fun w hw => (h w hw).mono fun _ _ ⟨v, u', e, k, s⟩ => ⟨v, u', e, hk v u' k, s⟩

/-- A value that an operation of the model's works out. -/
def SemF (P : Program) (m : Sem Value) (u : H) (K : Value → H → Prop) : Prop :=
  ∀ w, Sub u w → ∃ v w' u', m.run P w = .ok v w' ∧ K v u' ∧ Step u [] w u' [] w'

theorem SemF.mono {P : Program} {m : Sem Value} {u : H} {K K' : Value → H → Prop} (h : SemF P m u K) (hk : ∀ v u', K v u' → K' v u') : SemF P m u K' :=
  fun w hw => let ⟨v, w', u', e, k, s⟩ := h w hw; ⟨v, w', u', e, hk v u' k, s⟩

/-! ### kinds of cells, and functions of so many -/

inductive CT where
  | int (k : IntKind) | bool | str | ptr | slice | map | val | addr

/-- A slice's value. -/
structure Sl where
  a : Option Addr
  n : Nat
  c : Nat

@[reducible] def Sl.v (s : Sl) : Value := .slice s.a s.n s.c

def CT.den : CT → Type
  | .int _ => Int
  | .bool => Bool
  | .str => ByteArray
  | .ptr => Option Addr
  | .slice => Sl
  | .map => Option Nat
  | .val => Value
  | .addr => Addr

def CT.enc : (t : CT) → t.den → Value
  | .int k, n => .int k n
  | .bool, b => .bool b
  | .str, s => .string s
  | .ptr, p => .pointer p
  | .slice, s => .slice s.a s.n s.c
  | .map, r => .map r
  | .val, v => v
  | .addr, p => .pointer (some p)

def kEq (a b : IntKind) : Bool := a.bits == b.bits && a.signed == b.signed
theorem kEq_eq {a b : IntKind} (h : kEq a b = true) : a = b := by cases a <;> cases b <;> first | rfl | (revert h; decide)

/-- What a value is, if it is of this kind. -/
def CT.un : (t : CT) → Value → (t.den → Prop) → Prop
  | .int k, .int k' n, f => match kEq k' k with | true => f n | false => False
  | .bool, .bool b, f => f b
  | .str, .string s, f => f s
  | .ptr, .pointer p, f => f p
  | .slice, .slice a n c, f => f ⟨a, n, c⟩
  | .map, .map r, f => f r
  | .val, v, f => f v
  | .addr, .pointer (some p), f => f p
  | _, _, _ => False

theorem CT.un_spec {t : CT} {v : Value} {f : t.den → Prop} (h : t.un v f) : ∃ x, v = t.enc x ∧ f x := by
  by_cases ha : t = .addr
  · subst ha
    cases v <;> simp only [CT.un] at h <;> try contradiction
    rename_i p
    cases p with
    | none => exact h.elim
    | some p => exact ⟨p, rfl, h⟩
  cases t <;> (try exact absurd rfl ha) <;> cases v <;> simp only [CT.un] at h <;> try contradiction
  case int.int k k' n =>
    split at h
    · rename_i e; have := kEq_eq e; subst this; exact ⟨n, rfl, h⟩
    · exact h.elim
  all_goals exact ⟨_, rfl, h⟩

theorem kEq_self (k : IntKind) : kEq k k = true := by cases k <;> rfl

theorem CT.un_enc (t : CT) (x : t.den) (f : t.den → Prop) : t.un (t.enc x) f ↔ f x := by
  cases t <;> first | exact Iff.rfl | simp [CT.un, CT.enc, kEq_self]

def Cur : List CT → Type → Type
  | [], R => R
  | t :: ts, R => t.den → Cur ts R

def lamC {R : Type} : (ts : List CT) → (List Value → R) → Cur ts R
  | [], f => f []
  | t :: ts, f => fun x => lamC ts fun vs => f (t.enc x :: vs)

def allC : (ts : List CT) → (List Value → Prop) → Prop
  | [], f => f []
  | t :: ts, f => ∀ x : t.den, allC ts fun vs => f (t.enc x :: vs)

def unC {R : Type} : (ts : List CT) → Cur ts R → List Value → (R → Prop) → Prop
  | [], I, [], f => f I
  | t :: ts, I, v :: vs, f => t.un v fun x => unC ts (I x) vs f
  | _, _, _, _ => False

/-- Values of just these kinds. -/
inductive Kinds : List CT → List Value → Prop
  | nil : Kinds [] []
  | cons {t : CT} {ts : List CT} (x : t.den) {vs : List Value} : Kinds ts vs → Kinds (t :: ts) (t.enc x :: vs)

theorem unC_kinds {R : Type} {ts : List CT} {I : Cur ts R} {vs : List Value} {f : R → Prop} (h : unC ts I vs f) : Kinds ts vs := by
  induction ts generalizing vs with
  | nil => cases vs with
    | nil => exact .nil
    | cons => simp [unC] at h
  | cons t ts ih => cases vs with
    | nil => simp [unC] at h
    | cons v vs =>
      simp only [unC] at h
      obtain ⟨x, rfl, hx⟩ := CT.un_spec h
      exact .cons x (ih hx)

theorem allC_of {ts : List CT} {f : List Value → Prop} (h : allC ts f) {vs : List Value} (k : Kinds ts vs) : f vs := by
  induction k generalizing f with
  | nil => exact h
  | cons x _ ih => exact ih (f := fun vs => f (CT.enc _ x :: vs)) (h x)

/-- The value that I has at these. -/
theorem unC_val {R : Type} {ts : List CT} (I : Cur ts R) {vs : List Value} (k : Kinds ts vs) : ∃ r, ∀ f : R → Prop, unC ts I vs f ↔ f r := by
  induction k with
  | nil => exact ⟨I, fun f => Iff.rfl⟩
  | cons x _ ih =>
    obtain ⟨r, hr⟩ := ih (I x)
    exact ⟨r, fun f => by simp only [unC, CT.un_enc]; exact hr f⟩

theorem unC_lamC {R : Type} {ts : List CT} {g : List Value → R} {vs : List Value} (k : Kinds ts vs) (f : R → Prop) : unC ts (lamC ts g) vs f ↔ f (g vs) := by
  induction k generalizing g with
  | nil => exact Iff.rfl
  | cons x _ ih => simp only [unC, CT.un_enc, lamC]; exact ih

/-! ### results -/

/-- One result: a cell, or a struct of cells. -/
inductive Sh where
  | one (t : CT)
  | agg (ts : List CT)

def Sh.cts : Sh → List CT
  | .one t => [t]
  | .agg ts => ts

/-- A result's value out of its cells; and the cells that are left. -/
def Sh.take : Sh → List Value → Value × List Value
  | .one _, v :: vs => (v, vs)
  | .one _, [] => (.tuple #[], [])
  | .agg ts, vs => (.agg (vs.take ts.length).toArray, vs.drop ts.length)

def encShs : List Sh → List Value → List Value
  | [], _ => []
  | s :: ss, vs => (s.take vs).1 :: encShs ss (s.take vs).2

def encRes (ss : List Sh) (vs : List Value) : Value :=
  match encShs ss vs with
  | [v] => v
  | l => .tuple l.toArray

def ctsOf : List Sh → List CT
  | [] => []
  | s :: ss => s.cts ++ ctsOf ss

/-- A call whose results are of these kinds. -/
def ClT (P : Program) (f : FuncId) (args : Array Value) (ss : List Sh) (u : H) (K : Cur (ctsOf ss) (H → Prop)) : Prop :=
  Cl P f args u fun v u' => ∃ vs, Kinds (ctsOf ss) vs ∧ v = encRes ss vs ∧ unC (ctsOf ss) K vs fun r => r u'

def SemT (P : Program) (m : Sem Value) (ss : List Sh) (u : H) (K : Cur (ctsOf ss) (H → Prop)) : Prop :=
  SemF P m u fun v u' => ∃ vs, Kinds (ctsOf ss) vs ∧ v = encRes ss vs ∧ unC (ctsOf ss) K vs fun r => r u'

end Go.Proofs.YtbohcdjoglidhaaGreatDoor

/- VcOps -/
namespace Go.Proofs.YtbohcdjoglidhaaGreatDoor

/-- What a slot holds. -/
inductive SV where
  | v (x : Value)
  | ptr (p : Addr)
  | loc (i off : Nat)
  | tt
  | ff
  | dec (p : Prop) (d : Decidable p)
  | ndec (p : Prop) (d : Decidable p)

structure St where
  n : Nat
  env : List (Nat × SV)
  loc : List (List Value)
  dfs : Option Nat := none

/-- The activation's deferred calls: none, or the mark of a range over a function. -/
def dfsOf : Option Nat → List Deferred
  | none => []
  | some D => [{ target := .collected D, args := #[] }]

structure Cfg where
  P : Program
  exp : List Nat := []
  wrap : Bool := false
  eqT : List (Nat × Nat) := []
  ent : List Nat := []
  nxt : List Nat := []
  part : Bool := false

def conc (bs : List Nat) : SV → Option Value
  | .v x => some x
  | .ptr p => some (.pointer (some p))
  | .loc i off => match bs[i]? with
    | some b => some (.pointer (some ⟨b, off, none⟩))
    | none => none
  | .tt => some (.bool true)
  | .ff => some (.bool false)
  | .dec p d => some (.bool (@decide p d))
  | .ndec p d => some (.bool (!@decide p d))

/-- A value that hangs on no block of one's own. -/
def SV.val : SV → Option Value
  | .v x => some x
  | .ptr p => some (.pointer (some p))
  | .loc _ _ => none
  | .tt => some (.bool true)
  | .ff => some (.bool false)
  | .dec p d => some (.bool (@decide p d))
  | .ndec p d => some (.bool (!@decide p d))

theorem SV.val_conc {x : SV} {v : Value} (h : x.val = some v) (bs : List Nat) : conc bs x = some v := by
  cases x <;> simp only [SV.val] at h <;> first | exact h | cases h

def look : List (Nat × SV) → Nat → Option SV
  | [], _ => none
  | (i, x) :: r, j => match Nat.beq i j with
    | true => some x
    | false => look r j

def del : List (Nat × SV) → Nat → List (Nat × SV)
  | [], _ => []
  | (i, x) :: r, j => match Nat.beq i j with
    | true => del r j
    | false => (i, x) :: del r j

theorem look_mem {l : List (Nat × SV)} {j : Nat} {x : SV} (h : look l j = some x) : (j, x) ∈ l := by
  induction l with
  | nil => cases h
  | cons p r ih =>
    obtain ⟨i, y⟩ := p
    simp only [look] at h
    split at h
    · rename_i e; have := Nat.eq_of_beq_eq_true e; subst this; cases h; exact .head _
    · exact .tail _ (ih h)

theorem del_mem {l : List (Nat × SV)} {j : Nat} {p : Nat × SV} (h : p ∈ del l j) : p ∈ l ∧ p.1 ≠ j := by
  induction l with
  | nil => cases h
  | cons q r ih =>
    obtain ⟨i, y⟩ := q
    simp only [del] at h
    split at h
    · exact ⟨.tail _ (ih h).1, (ih h).2⟩
    · rename_i e
      cases h with
      | head => exact ⟨.head _, fun e' => by simp only at e'; subst e'; simp at e⟩
      | tail _ h => exact ⟨.tail _ (ih h).1, (ih h).2⟩

def St.put (s : St) (dst : Option Tmp) (x : SV) : St :=
  match dst with
  | none => s
  | some d => match Nat.blt d s.n with
    | true => { s with env := (d, x) :: del s.env d }
    | false => { s with env := del s.env d }

/-- A slot of which nothing is known any more. -/
def St.drop (s : St) (dst : Option Tmp) : St :=
  match dst with
  | none => s
  | some d => { s with env := del s.env d }

def St.sv (s : St) : Operand → Option SV
  | .tmp t => look s.env t
  | .const (.bool true) => some .tt
  | .const (.bool false) => some .ff
  | .const v => some (.v v)
  | .global g => some (.ptr ⟨g, 0, none⟩)
  | .func f => some (.v (.func (.func f) #[] #[]))

def St.val (s : St) (x : Operand) : Option Value := (s.sv x).bind SV.val

structure FitsE (s : St) (bs : List Nat) (a : Act) : Prop where
  defers : a.defers = dfsOf s.dfs
  n : a.tmps.size = s.n
  env : ∀ p ∈ s.env, ∃ v, conc bs p.2 = some v ∧ a.tmps[p.1]? = some v

structure Fits (s : St) (bs : List Nat) (u : H) (a : Act) (w : World) : Prop extends FitsE s bs a where
  len : bs.length = s.loc.length
  loc : ∀ (i : Nat) (cs : List Value), s.loc[i]? = some cs → ∃ (b : Nat) (T : TypeId), bs[i]? = some b ∧ w.heap[b]? = some (Obj.cells cs.toArray T (0, 0))
  nodup : bs.Nodup
  hid : ∀ b ∈ bs, u b = none ∧ b < w.heap.size
  sub : Sub u w

/-- The world's part of Fits. -/
structure FitsW (loc : List (List Value)) (bs : List Nat) (u : H) (w : World) : Prop where
  loc : ∀ (i : Nat) (cs : List Value), loc[i]? = some cs → ∃ (b : Nat) (T : TypeId), bs[i]? = some b ∧ w.heap[b]? = some (Obj.cells cs.toArray T (0, 0))
  sub : Sub u w

theorem Fits.w {s : St} {bs : List Nat} {u : H} {a : Act} {w : World} (h : Fits s bs u a w) : FitsW s.loc bs u w := ⟨h.loc, h.sub⟩

theorem FitsE.sv {s : St} {bs : List Nat} {a : Act} (h : FitsE s bs a) {x : Operand} {y : SV} (e : s.sv x = some y) : conc bs y = some (a.eval x) := by
  cases x with
  | tmp t =>
    simp only [St.sv] at e
    obtain ⟨v, h1, h2⟩ := h.env _ (look_mem e)
    simp only [Act.eval]
    simp only at h1 h2
    rw [h1, ← h2, Array.getD_eq_getD_getElem?, h2]; rfl
  | const v =>
    cases v <;> try (simp only [St.sv, Option.some.injEq] at e; subst e; rfl)
    rename_i b
    cases b <;> (simp only [St.sv, Option.some.injEq] at e; subst e; rfl)
  | global g => simp only [St.sv, Option.some.injEq] at e; subst e; rfl
  | func f => simp only [St.sv, Option.some.injEq] at e; subst e; rfl

theorem FitsE.val {s : St} {bs : List Nat} {a : Act} (h : FitsE s bs a) {x : Operand} {v : Value} (e : s.val x = some v) : a.eval x = v := by
  unfold St.val at e
  cases hx : s.sv x with
  | none => rw [hx] at e; cases e
  | some y =>
    rw [hx] at e
    have h1 := h.sv hx
    have h2 := SV.val_conc e bs
    rw [h1] at h2
    exact Option.some.inj h2

theorem put_tmps (a : Act) (d : Nat) (v : Value) (j : Nat) : (a.put (some d) v).tmps[j]? = if d = j ∧ j < a.tmps.size then some v else a.tmps[j]? := by
  simp only [Act.put, Array.getElem?_setIfInBounds]
  by_cases h : d = j
  · subst h
    by_cases h2 : d < a.tmps.size
    · simp [h2]
    · simp [h2]
  · simp [h]

theorem Fits.drop {s : St} {bs : List Nat} {u : H} {a : Act} {w : World} (h : Fits s bs u a w) (dst : Option Tmp) (v : Value) : Fits (s.drop dst) bs u (a.put dst v) w := by
  cases dst with
  | none => exact h
  | some d =>
    refine ⟨⟨h.defers, by simp [Act.put, h.n, St.drop], ?_⟩, h.len, h.loc, h.nodup, h.hid, h.sub⟩
    intro p hp
    obtain ⟨h1, h2⟩ := del_mem hp
    obtain ⟨x, hx, hy⟩ := h.env p h1
    refine ⟨x, hx, ?_⟩
    rw [put_tmps, if_neg (fun e => h2 e.1.symm)]
    exact hy

theorem Fits.put {s : St} {bs : List Nat} {u : H} {a : Act} {w : World} (h : Fits s bs u a w) (dst : Option Tmp) {x : SV} {v : Value} (e : conc bs x = some v) : Fits (s.put dst x) bs u (a.put dst v) w := by
  cases dst with
  | none => exact h
  | some d =>
    have hd := h.drop (some d) v
    cases hb : Nat.blt d s.n with
    | false =>
      have e1 : s.put (some d) x = s.drop (some d) := by simp only [St.put, hb, St.drop]
      rw [e1]; exact hd
    | true =>
      have e1 : s.put (some d) x = { s with env := (d, x) :: del s.env d } := by simp only [St.put, hb]
      rw [e1]
      have hlt : d < s.n := by simpa using hb
      refine ⟨⟨hd.defers, hd.n, ?_⟩, h.len, h.loc, h.nodup, h.hid, h.sub⟩
      intro p hp
      cases hp with
      | head => exact ⟨v, e, by rw [put_tmps, if_pos ⟨rfl, by rw [h.n]; exact hlt⟩]⟩
      | tail _ hp => exact hd.env p hp

/-- What is known may grow, the blocks of one's own as they are. -/
theorem Fits.step {s : St} {bs : List Nat} {u u' : H} {a : Act} {w w' : World} (h : Fits s bs u a w) (k : Step u [] w u' [] w') : Fits s bs u' a w' := by
  refine ⟨⟨h.defers, h.n, h.env⟩, h.len, ?_, h.nodup, ?_, k.sub⟩
  · intro i cs e
    obtain ⟨b, T, h1, h2⟩ := h.loc i cs e
    have hm : b ∈ bs := List.mem_of_getElem? h1
    exact ⟨b, T, h1, (k.rest b (h.hid b hm).2 (h.hid b hm).1 (by simp)).trans h2⟩
  · intro b hb
    exact ⟨k.honest b (h.hid b hb).2 (h.hid b hb).1, Nat.lt_of_lt_of_le (h.hid b hb).2 k.size⟩

theorem Step.hide {u u' : H} {w w' : World} (k : Step u [] w u' [] w') (bs : List Nat) : Step u bs w u' bs w' :=
  ⟨k.sub, k.os, k.tape, k.output, k.drawn, k.size, fun b hb hu _ => k.rest b hb hu (by simp), k.honest, [], by simp, by simp⟩

/-! ### kinds of types -/

def ctOf : Value → CT
  | .int k _ => .int k
  | .bool _ => .bool
  | .string _ => .str
  | .pointer _ => .ptr
  | .slice _ _ _ => .slice
  | .map _ => .map
  | _ => .val

def aggOf (P : Program) (t : TypeId) : Bool :=
  match P.underlying t with
  | some (.struct _) => true
  | some (.array _ _) => true
  | _ => false

/-- A type's cells, its zero's cells told by their kinds; only where the table's size is that of the zero. -/
def shOf (P : Program) (t : TypeId) : Option Sh :=
  match P.info? t with
  | some i => match i.zero, P.underlying t with
    | some (.agg cs), some _ => match aggOf P t, Nat.beq cs.size i.size with
      | true, true => some (.agg (cs.toList.map ctOf))
      | _, _ => none
    | some z, some _ => match aggOf P t, Nat.beq 1 i.size with
      | false, true => some (.one (ctOf z))
      | _, _ => none
    | _, _ => none
  | none => none

def shsOf (P : Program) (t : TypeId) : Option (List Sh) :=
  match P.underlying t with
  | some (.tuple ts) => ts.toList.mapM (shOf P)
  | _ => (shOf P t).map fun s => [s]

/-- A type's zero, in cells. -/
def zeroOf (P : Program) (t : TypeId) : Option (List Value) :=
  match P.info? t with
  | some i => i.zero.map fun z => z.cells.toList
  | none => none

def sizeOfT (P : Program) (t : TypeId) : Option Nat := (P.info? t).map (·.size)

/-! ### values that a Sem works out without looking at the world -/

def pureRun (P : Program) {α : Type} : Sem α → Option α
  | .pure a => some a
  | .program k => pureRun P (k P)
  | _ => none

theorem pureRun_run {P : Program} {α : Type} {m : Sem α} {a : α} (h : pureRun P m = some a) (w : World) : m.run P w = .ok a w := by
  induction m with
  | pure b => simp only [pureRun, Option.some.injEq] at h; subst h; rfl
  | program k ih => simp only [pureRun] at h; simp only [Sem.run]; exact ih _ h
  | _ => simp [pureRun] at h

def St.rho (s : St) (x : Operand) : Value := (s.val x).getD undef

def known (s : St) (o : Oper) : Bool := o.op.operands.toList.all fun x => (s.val x).isSome

theorem exec_rho {s : St} {bs : List Nat} {a : Act} (h : FitsE s bs a) {o : Oper} (hs : ∀ cs b, o.op ≠ .select cs b) (hk : known s o = true) : execOp a.eval o = execOp s.rho o := by
  refine execOp_congr o hs fun x hx => ?_
  have h1 := List.all_eq_true.1 hk x (Array.mem_toList_iff.2 hx)
  obtain ⟨v, hv⟩ := Option.isSome_iff_exists.1 h1
  rw [h.val hv]; simp [St.rho, hv]

/-- Operations that are worked out on the slots alone, where they can be; not those that look at memory. -/
def notSelect : Op → Bool
  | .select _ _ | .index .. | .lookup .. | .mapUpdate .. | .insert .. | .makeMap .. | .makeSlice .. | .slice .. | .buildSlice .. | .typeAssert .. | .range .. | .next .. | .entry .. | .mapEntry .. | .entryStore .. => false
  | .call c => match c.callee with
    | .builtin .append | .builtin .copy | .builtin .delete | .builtin .clear => false
    | _ => true
  | _ => true

/-- The length of a map: it hangs on memory. -/
def mapLen (P : Program) : Op → Bool
  | .call c => match c.callee with
    | .builtin .len => match c.argTypes.toList with
      | t :: _ => match P.underlying t with
        | some (.map _ _) => true
        | _ => false
      | [] => false
    | _ => false
  | _ => false

/-- The value of an operation that looks at no memory. -/
def plainVal (P : Program) (s : St) (o : Oper) : Option Value :=
  match mapLen P o.op with
  | true => none
  | false => match known s o, notSelect o.op with
    | true, true => match pureRun P (execOp s.rho o) with
      | some (.value v) => some v
      | _ => none
    | _, _ => none

theorem plainVal_run {P : Program} {s : St} {bs : List Nat} {a : Act} (h : FitsE s bs a) {o : Oper} {v : Value} (e : plainVal P s o = some v) (w : World) : (execOp a.eval o).run P w = .ok (.value v) w := by
  unfold plainVal at e
  split at e
  · cases e
  · split at e
    · rename_i h1 h2
      split at e
      · rename_i x h3
        cases e
        rw [exec_rho h (fun cs b e => by rw [e] at h2; cases h2) h1]
        exact pureRun_run h3 w
      · cases e
    · cases e

/-! ### whole numbers: tests, sums -/

def cmpI : BinOp → Int → Int → Option SV
  | .eql, a, b => some (.dec (a = b) inferInstance)
  | .neq, a, b => some (.ndec (a = b) inferInstance)
  | .lss, a, b => some (.dec (a < b) inferInstance)
  | .leq, a, b => some (.dec (a ≤ b) inferInstance)
  | .gtr, a, b => some (.dec (b < a) inferInstance)
  | .geq, a, b => some (.dec (b ≤ a) inferInstance)
  | _, _, _ => none

theorem cmpI_run {op : BinOp} {a b : Int} {x : SV} (h : cmpI op a b = some x) (P : Program) (t : TypeId) (k : IntKind) (bs : List Nat) :
    ∃ v, conc bs x = some v ∧ ∀ w, (binOp op t (.int k a) (.int k b)).run P w = .ok v w := by
  cases op <;> simp only [cmpI, Option.some.injEq, reduceCtorEq] at h <;> subst h <;> refine ⟨_, rfl, fun w => ?_⟩
  · rw [binOp_eql]; rfl
  · rw [binOp_neq]; rfl
  · rw [binOp_lss]; rfl
  · rw [binOp_leq]; rfl
  · rw [binOp_gtr]; rfl
  · rw [binOp_geq]; rfl

def InR (x : Int) : Prop := -9223372036854775808 ≤ x ∧ x ≤ 9223372036854775807

theorem wrap_InR {x : Int} (h : InR x) : IntKind.i64.wrap x = x := by
  obtain ⟨h1, h2⟩ := h
  simp only [IntKind.wrap, IntKind.signed, IntKind.bits]
  simp only [Bool.true_and, decide_eq_true_eq, ge_iff_le]
  split <;> omega

/-- Sums of int that are not too great; of other kinds (or where it is asked for) they wrap. -/
def arithI (wrap : Bool) (op : BinOp) (k : IntKind) (a b : Int) (f : Int → Prop) : Prop :=
  let r : Option Int := match op with
    | .add => some (a + b)
    | .sub => some (a - b)
    | .mul => some (a * b)
    | _ => none
  match r with
  | some z => match k, wrap with
    | .i64, false => InR z ∧ f z
    | k, _ => f (k.wrap z)
  | none => match op with
    | .quo => b ≠ 0 ∧ (match k, wrap with
      | .i64, false => InR (a.tdiv b) ∧ f (a.tdiv b)
      | k, _ => f (k.wrap (a.tdiv b)))
    | .rem => b ≠ 0 ∧ f (a.tmod b)
    | .shl => 0 ≤ b ∧ f (k.wrap (a * 2 ^ (min b.toNat k.bits)))
    | .shr => 0 ≤ b ∧ f (a.fdiv (2 ^ (min b.toNat k.bits)))
    | .and => f (bits .and k a b)
    | .or => f (bits .or k a b)
    | .xor => f (bits .xor k a b)
    | .andNot => f (bits .andNot k a b)
    | _ => False

theorem arithI_run {wrap : Bool} {op : BinOp} {k : IntKind} {a b : Int} {f : Int → Prop} (h : arithI wrap op k a b f) (P : Program) (t : TypeId) (k' : IntKind)
    (hk : k' = k ∨ op = .shl ∨ op = .shr) :
    ∃ z, f z ∧ ∀ w, (binOp op t (.int k a) (.int k' b)).run P w = .ok (.int k z) w := by
  have two : ∀ z, (match k, wrap with | .i64, false => InR z ∧ f z | k, _ => f (k.wrap z)) → f (k.wrap z) := by
    intro z hz
    cases k <;> cases wrap <;> first | exact hz | (rw [wrap_InR hz.1]; exact hz.2)
  unfold arithI at h
  cases op <;> simp only [] at h
  case add => obtain rfl : k' = k := by simpa using hk
              exact ⟨_, two _ h, fun w => by rw [binOp_add]; rfl⟩
  case sub => obtain rfl : k' = k := by simpa using hk
              exact ⟨_, two _ h, fun w => by rw [binOp_sub]; rfl⟩
  case mul => obtain rfl : k' = k := by simpa using hk
              exact ⟨_, two _ h, fun w => by rw [binOp_mul]; rfl⟩
  case quo =>
    obtain rfl : k' = k := by simpa using hk
    exact ⟨_, two _ h.2, fun w => by rw [binOp_quo]; simp [Op.intDiv, h.1]⟩
  case rem =>
    obtain rfl : k' = k := by simpa using hk
    exact ⟨_, h.2, fun w => by rw [binOp_rem]; simp [Op.intDiv, h.1]⟩
  case and => obtain rfl : k' = k := by simpa using hk
              exact ⟨_, h, fun w => by rw [binOp_and, intBits_and]; rfl⟩
  case or => obtain rfl : k' = k := by simpa using hk
             exact ⟨_, h, fun w => by rw [binOp_or, intBits_or]; rfl⟩
  case xor => obtain rfl : k' = k := by simpa using hk
              exact ⟨_, h, fun w => by rw [binOp_xor, intBits_xor]; rfl⟩
  case andNot => obtain rfl : k' = k := by simpa using hk
                 exact ⟨_, h, fun w => by rw [binOp_andNot, intBits_andNot]; rfl⟩
  case shl =>
    refine ⟨_, h.2, fun w => ?_⟩
    rw [binOp_shl]
    have : ¬ b < 0 := by omega
    simp [Op.shift, this]
  case shr =>
    refine ⟨_, h.2, fun w => ?_⟩
    rw [binOp_shr]
    have : ¬ b < 0 := by omega
    simp [Op.shift, this]

end Go.Proofs.YtbohcdjoglidhaaGreatDoor

/- VcStep -/
namespace Go.Proofs.YtbohcdjoglidhaaGreatDoor

/-- A proposition that can be decided. -/
structure PD where
  p : Prop
  d : Decidable p

def decNone {α : Type} (x : Option α) : Decidable (x = none) :=
  match x with
  | none => .isTrue rfl
  | some _ => .isFalse (by simp)

def eqCell : Value → Value → Option PD
  | .int k a, .int k' b => match kEq k k' with
    | true => some ⟨a = b, inferInstance⟩
    | false => none
  | _, _ => none

/-- Of how many whole numbers a struct is made, if it may be compared. -/
def eqN : List (Nat × Nat) → Nat → Option Nat
  | [], _ => none
  | (t, n) :: r, x => match Nat.beq t x with
    | true => some n
    | false => eqN r x

/-- All cells are the same. -/
def eqCells : List Value → List Value → Option PD
  | [], [] => some ⟨True, inferInstance⟩
  | [x], [y] => eqCell x y
  | x :: xs, y :: ys => match eqCell x y, eqCells xs ys with
    | some a, some b => some ⟨a.p ∧ b.p, @instDecidableAnd a.p b.p a.d b.d⟩
    | _, _ => none
  | _, _ => none

def boolOf : SV → Option Bool
  | .v (.bool b) => some b
  | .tt => some true
  | .ff => some false
  | .dec p d => some (@decide p d)
  | .ndec p d => some (!@decide p d)
  | _ => none

def isShift : BinOp → Bool
  | .shl => true
  | .shr => true
  | _ => false

/-- '==' of two values that are no whole numbers. -/
def eqSV (C : Cfg) (t : TypeId) : SV → SV → Option PD
  | .v (.pointer p), .v (.pointer none) => match C.P.underlying t with
    | some (.pointer _) => some ⟨p = none, decNone p⟩
    | _ => none
  | .ptr _, .v (.pointer none) => match C.P.underlying t with
    | some (.pointer _) => some ⟨False, inferInstance⟩
    | _ => none
  | .v (.slice a _ _), .v (.slice none _ _) => match C.P.underlying t with
    | some (.slice _) => some ⟨a = none, decNone a⟩
    | _ => none
  | .v (.map a), .v (.map none) => match C.P.underlying t with
    | some (.map _ _) => some ⟨a = none, decNone a⟩
    | _ => none
  | .v (.agg xs), .v (.agg ys) => match eqN C.eqT t with
    | some n => match Nat.beq xs.toList.length n, Nat.beq ys.toList.length n with
      | true, true => eqCells xs.toList ys.toList
      | _, _ => none
    | none => none
  | .v (.string x), .v (.string y) => some ⟨x.toList = y.toList, inferInstance⟩
  | x, y => match boolOf x, boolOf y, C.P.underlying t with
    | some a, some b, some .bool => some ⟨a = b, inferInstance⟩
    | _, _, _ => none

def _root_.Go.Addr.at' (p : Addr) : Nat → Addr
  | 0 => p
  | i + 1 => p.add (i + 1)

/-- Cells of these kinds lie there, one behind the other. -/
def ldM (u : H) (p : Addr) : Nat → List CT → (List Value → Prop) → Prop
  | _, [], f => f []
  | i, t :: ts, f => ∃ x : t.den, u.cell? (p.at' i) = some (t.enc x) ∧ ldM u p (i + 1) ts fun vs => f (t.enc x :: vs)

def Sh.mk : Sh → List Value → Value
  | .one _, v :: _ => v
  | .one _, [] => .tuple #[]
  | .agg _, vs => .agg vs.toArray

def wr : Array Value → Nat → List Value → Array Value
  | c, _, [] => c
  | c, o, v :: vs => wr (c.setIfInBounds o v) (o + 1) vs

/-- Values are stored there. -/
def H.St (u : H) (p : Addr) (vs : List Value) (f : H → Prop) : Prop :=
  ∃ (c : Array Value) (T : TypeId), u p.block = some (.cells c T (0, 0)) ∧ p.spot = none ∧ p.off + vs.length ≤ c.size ∧ (∀ v ∈ vs, v.oneCell' = true) ∧
    f (u.ins p.block (.cells (wr c p.off vs) T (0, 0)))

/-- A list with others in place of some. -/
def over (cs : List Value) (off : Nat) (vs : List Value) : List Value := cs.take off ++ vs ++ cs.drop (off + vs.length)

def ones : List Value → Bool
  | [] => true
  | v :: vs => v.oneCell' && ones vs

def setL {α : Type} : List α → Nat → α → List α
  | [], _, _ => []
  | _ :: xs, 0, y => y :: xs
  | x :: xs, i + 1, y => x :: setL xs i y

def offOf (P : Program) (t : TypeId) (f : Nat) : Option Nat :=
  match P.underlying t with
  | some (.struct fs) => match fs[f]? with
    | some g => match sizeOfT P g.type with
      | some (_ + 1) => some g.offset
      | _ => none
    | none => none
  | _ => none

def memB (l : List Nat) (x : Nat) : Bool := l.any (Nat.beq x)

def vals (s : St) (xs : Array Operand) : Option (List Value) := xs.toList.mapM s.val

/-- A call of a value that is a function. -/
def ClV (P : Program) (fv : Value) (args : Array Value) (ss : List Sh) (u : H) (K : Cur (ctsOf ss) (H → Prop)) : Prop :=
  ∃ f pre cap, fv = .func (.func f) pre cap ∧ (∃ fn, P.funcs[f]? = some fn ∧ fn.body.isSome = true) ∧ ClT P f (pre ++ args ++ cap) ss u K

/-- A call of a loop's own function (yield): a round. -/
def ClR (P : Program) (fv : Value) (args : Array Value) (ss : List Sh) (u : H) (K : Cur (ctsOf ss) (H → Prop)) : Prop :=
  ∃ l, fv = .func (.yield l) #[] #[] ∧ ∀ w, Sub u w → YieldAt Fence.wide 0 P l args w fun e w' => ∃ v u', e = .returned v ∧ (∃ vs, Kinds (ctsOf ss) vs ∧ v = encRes ss vs ∧ unC (ctsOf ss) K vs fun r => r u') ∧ Step u [] w u' [] w'

/-- A call of a function value, whatever function it is. -/
def ClY (P : Program) (fv : Value) (args : Array Value) (ss : List Sh) (u : H) (K : Cur (ctsOf ss) (H → Prop)) : Prop := ClV P fv args ss u K ∨ ClR P fv args ss u K

/-- A method called on an interface value. -/
def ClI (P : Program) (recv : Value) (name : String) (args : Array Value) (ss : List Sh) (u : H) (K : Cur (ctsOf ss) (H → Prop)) : Prop :=
  ∃ t v f r, recv = .iface t v ∧ (∀ w, Sub u w → (method (P.types.size + Made.depth) t v name).run P w = .ok (f, r) w) ∧
    (∃ fn, P.funcs[f]? = some fn ∧ fn.body.isSome = true) ∧ ClT P f (#[r] ++ args) ss u K

/-- A function that the model answers itself. -/
def callX (f : FuncId) (args : Array Value) : Sem Value := do
  match ← callFunc f args with
  | .value v => pure v
  | _ => stuck "callX"

def unit (m : Sem Unit) : Sem Value := do
  m
  pure undef

def hasBody (P : Program) (f : FuncId) : Bool :=
  match P.funcs[f]? with
  | some fn => fn.body.isSome
  | none => false

def noBody (P : Program) (f : FuncId) : Bool :=
  match P.funcs[f]? with
  | some fn => fn.body.isNone
  | none => false

/-- What an operation works out by a look at memory, its operands known. -/
def semOf (s : St) (o : Oper) : Option (Sem Value) :=
  match o.op with
  | .lookup t x i ok => some (Instr.lookup t (s.rho x) (s.rho i) ok)
  | .mapUpdate t m k x => some (unit (Instr.mapUpdate t (s.rho m) (s.rho k) (s.rho x)))
  | .insert t m k x => some (unit (Instr.mapUpdate t (s.rho m) (s.rho k) (s.rho x)))
  | .makeMap t none => some (Instr.makeMap t none)
  | .makeMap t (some r) => some (Instr.makeMap t (some (s.rho r)))
  | .makeSlice t l c => some (Instr.makeSlice t (s.rho l) (s.rho c))
  | .slice t x lo hi mx => some (Instr.sliceAt t (s.rho x) (lo.map s.rho) (hi.map s.rho) (mx.map s.rho))
  | .index t x i => some (Instr.index t (s.rho x) (s.rho i))
  | .convert a b x => some (Go.convert a b (s.rho x))
  | .buildSlice t n ps => some (Instr.buildSlice t n (ps.map fun (i, x) => (i, s.rho x)))
  | .typeAssert x a b ok => some (Instr.typeAssert (s.rho x) a b ok)
  | .range t x => some (Instr.range t (s.rho x))
  | .next i str => some (Instr.next (s.rho i) str o.type)
  | .entry i => some (Instr.entry (s.rho i))
  | .mapEntry t m k => some (Instr.mapEntry t (s.rho m) (s.rho k))
  | .entryStore t m k x => some (unit (Instr.entryStore t (s.rho m) (s.rho k) (s.rho x)))
  | .call c => match c.callee with
    | .builtin .append => some (Builtin.append_ c.argTypes o.type (c.args.map s.rho))
    | .builtin .copy => some (Builtin.copy_ c.argTypes o.type (c.args.map s.rho))
    | .builtin .delete => some (Builtin.delete_ c.argTypes o.type (c.args.map s.rho))
    | .builtin .len => some (Builtin.len_ c.argTypes o.type (c.args.map s.rho))
    | .builtin .max => some (Builtin.max_ c.argTypes o.type (c.args.map s.rho))
    | .builtin .min => some (Builtin.min_ c.argTypes o.type (c.args.map s.rho))
    | .builtin .clear => some (Builtin.clear_ c.argTypes o.type (c.args.map s.rho))
    | .value (.func f) => some (callX f (c.args.map s.rho))
    | _ => none
  | _ => none

/-- The type of what semOf yields: nothing, where it is a statement. -/
def isUnit : Op → Bool
  | .mapUpdate .. | .insert .. | .entryStore .. => true
  | .call c => match c.callee with
    | .builtin .delete | .builtin .clear => true
    | _ => false
  | _ => false

def semSh (P : Program) (o : Oper) : Option (List Sh) :=
  match isUnit o.op with
  | true => some []
  | false => match o.op with
    | .alloc _ | .buildSlice _ _ _ => shsOf P o.type
    | _ => shsOf P o.type

/-- The continuation behind an operation that yields values of these kinds. -/
def contC (s : St) (dst : Option Tmp) (ss : List Sh) (K : St → H → Prop) : Cur (ctsOf ss) (H → Prop) :=
  lamC (ctsOf ss) fun vs u' => K (s.put dst (.v (encRes ss vs))) u'

/-- An operation that nothing else here takes: a value worked out without memory, or by a look at it. -/
def other (C : Cfg) (s : St) (o : Oper) (u : H) (K : St → H → Prop) : Prop :=
  match plainVal C.P s o with
  | some v => K (s.put o.dst (.v v)) u
  | none => match known s o, semOf s o, semSh C.P o with
    | true, some m, some ss => SemT C.P m ss u (contC s o.dst ss K)
    | _, _, _ => False

def stepOp (C : Cfg) (wrt : Nat → Bool) (s : St) (o : Oper) (u : H) (K : St → H → Prop) : Prop :=
  match o.op with
  | .move x => match s.sv x with
    | some y => K (s.put o.dst y) u
    | none => False
  | .assign x => match s.sv x with
    | some y => K (s.put o.dst y) u
    | none => False
  | .pick c a b => match s.sv c, s.sv a, s.sv b with
    | some .tt, some y, _ => K (s.put o.dst y) u
    | some .ff, _, some y => K (s.put o.dst y) u
    | some (.dec p _), some y, some z => (p → K (s.put o.dst y) u) ∧ (¬ p → K (s.put o.dst z) u)
    | some (.ndec p _), some y, some z => (¬ p → K (s.put o.dst y) u) ∧ (p → K (s.put o.dst z) u)
    | _, _, _ => False
  | .binOp op t x y _ => match s.sv x, s.sv y with
    | some (.v (.int k a)), some (.v (.int k' b)) => match cmpI op a b with
      | some z => match kEq k' k with
        | true => K (s.put o.dst z) u
        | false => False
      | none => match isShift op || kEq k' k with
        | true => arithI C.wrap op k a b fun z => K (s.put o.dst (.v (.int k z))) u
        | false => False
    | some a, some b => match op with
      | .eql => match eqSV C t a b with
        | some z => K (s.put o.dst (.dec z.p z.d)) u
        | none => False
      | .neq => match eqSV C t a b with
        | some z => K (s.put o.dst (.ndec z.p z.d)) u
        | none => False
      | _ => other C s o u K
    | _, _ => False
  | .unOp .not _ x => match s.sv x with
    | some .tt => K (s.put o.dst .ff) u
    | some .ff => K (s.put o.dst .tt) u
    | some (.dec p d) => K (s.put o.dst (.ndec p d)) u
    | some (.ndec p d) => K (s.put o.dst (.dec p d)) u
    | some (.v (.bool b)) => K (s.put o.dst (.ndec (b = true) inferInstance)) u
    | _ => False
  | .load t x => match s.sv x, shOf C.P t with
    | some (.loc i off), some sh => match s.loc[i]? with
      | some cs => match Nat.ble (off + sh.cts.length) cs.length with
        | true => K (s.put o.dst (.v (sh.mk ((cs.drop off).take sh.cts.length)))) u
        | false => False
      | none => False
    | some (.ptr p), some sh => ldM u p 0 sh.cts fun vs => K (s.put o.dst (.v (sh.mk vs))) u
    | _, _ => False
  | .store t x y => match s.sv x, s.val y, shOf C.P t with
    | some (.loc i off), some v, some sh => match s.loc[i]?, wrt i, Nat.beq v.cells.size sh.cts.length, ones v.cells.toList with
      | some cs, true, true, true => match Nat.ble (off + sh.cts.length) cs.length with
        | true => K ({ s with loc := setL s.loc i (over cs off v.cells.toList) }.drop o.dst) u
        | false => False
      | _, _, _, _ => False
    | some (.ptr p), some v, some sh => match Nat.beq v.cells.size sh.cts.length with
      | true => u.St p v.cells.toList fun u' => K (s.drop o.dst) u'
      | false => False
    | _, _, _ => False
  | .alloc t => match zeroOf C.P t, o.dst with
    | some cs, some d => match memB C.exp d with
      | true => ∀ b, u b = none → K (s.put (some d) (.ptr ⟨b, 0, none⟩)) (u.ins b (.cells cs.toArray t (0, 0)))
      | false => K ({ s with loc := s.loc ++ [cs] }.put (some d) (.loc s.loc.length 0)) u
    | _, _ => False
  | .box t x => match s.val x, o.dst with
    | some v, some d => match memB C.exp d with
      | true => ∀ b, u b = none → K (s.put (some d) (.ptr ⟨b, 0, none⟩)) (u.ins b (.cells v.cells.toList.toArray t (0, 0)))
      | false => K ({ s with loc := s.loc ++ [v.cells.toList] }.put (some d) (.loc s.loc.length 0)) u
    | _, _ => False
  | .nilCheck x => match s.sv x with
    | some (.loc i off) => K (s.put o.dst (.loc i off)) u
    | some (.ptr p) => K (s.put o.dst (.ptr p)) u
    | some (.v (.pointer q)) => ∃ p, q = some p ∧ K (s.put o.dst (.ptr p)) u
    | _ => False
  | .fieldAddr t x f => match s.sv x, offOf C.P t f with
    | some (.loc i off), some n => K (s.put o.dst (.loc i (off + n))) u
    | some (.ptr p), some n => K (s.put o.dst (.ptr (p.at' n))) u
    | _, _ => False
  | .indexAddr t x ix => match C.P.underlying t with
    | some (.slice e) => match s.sv x, s.sv ix, sizeOfT C.P e with
      | some (.v (.slice a n _)), some (.v (.int _ i)), some sz => ∃ p, a = some p ∧ (0 ≤ i ∧ i < n) ∧ K (s.put o.dst (.ptr (p.add (i.toNat * sz)))) u
      | _, _, _ => False
    | some (.array len e) => match s.sv x, s.sv ix, sizeOfT C.P e with
      | some (.loc j off), some (.v (.int _ (.ofNat m))), some (sz + 1) => match Nat.blt m len with
        | true => K (s.put o.dst (.loc j (off + m * (sz + 1)))) u
        | false => False
      | some (.ptr p), some (.v (.int _ i)), some sz => 2 ≤ len ∧ (0 ≤ i ∧ i < len) ∧ K (s.put o.dst (.ptr (p.add (i.toNat * sz)))) u
      | _, _, _ => False
    | _ => False
  | .call c => match vals s c.args, shsOf C.P o.type with
    | some vs, some ss => match c.callee with
      | .value (.func f) => match hasBody C.P f with
        | true => ClT C.P f vs.toArray ss u (contC s o.dst ss K)
        | false => match noBody C.P f with
          | true => SemT C.P (callX f vs.toArray) ss u (contC s o.dst ss K)
          | false => False
      | .value x => match s.sv x with
        | some (.v fv) => ClV C.P fv vs.toArray ss u (contC s o.dst ss K)
        | _ => False
      | .invoke x name => match s.sv x with
        | some (.v r) => ClI C.P r name vs.toArray ss u (contC s o.dst ss K)
        | _ => False
      | .builtin _ => other C s o u K
    | _, _ => False
  | _ => other C s o u K

end Go.Proofs.YtbohcdjoglidhaaGreatDoor

/- VcSound -/
namespace Go.Proofs.YtbohcdjoglidhaaGreatDoor

/-- What is asked of the program once. -/
structure Good (C : Cfg) : Prop where
  ng : ∀ (f : FuncId) (fn : Func), C.P.funcs[f]? = some fn → (fn.name == "runtime.NumGoroutine") = false
  mixed : C.P.follows .mixedOrders = true
  eq : ∀ t n, eqN C.eqT t = some n → ∀ xs ys z, xs.toList.length = n → ys.toList.length = n → eqCells xs.toList ys.toList = some z → ∀ (x y : Operand) (w : World),
    (eqGuard .eql t x y (.agg xs) (.agg ys)).run C.P w = .ok () w ∧ (eqGuard .neq t x y (.agg xs) (.agg ys)).run C.P w = .ok () w ∧
    (Op.equal t (.agg xs) (.agg ys)).run C.P w = .ok (@decide z.p z.d) w

/-- The boxes that may not be written are as they were. -/
structure Kept (wrt : Nat → Bool) (s s' : St) : Prop where
  n : s'.n = s.n
  len : s.loc.length ≤ s'.loc.length
  same : ∀ i cs, s.loc[i]? = some cs → wrt i = false → s'.loc[i]? = some cs

theorem Kept.refl (wrt : Nat → Bool) (s : St) : Kept wrt s s := ⟨rfl, Nat.le_refl _, fun _ _ h _ => h⟩
theorem Kept.trans {wrt : Nat → Bool} {a b c : St} (h : Kept wrt a b) (k : Kept wrt b c) : Kept wrt a c :=
  ⟨k.n.trans h.n, Nat.le_trans h.len k.len, fun i cs e w => k.same i cs (h.same i cs e w) w⟩

theorem put_loc (s : St) (d : Option Tmp) (x : SV) : (s.put d x).loc = s.loc ∧ (s.put d x).n = s.n := by
  cases d with
  | none => exact ⟨rfl, rfl⟩
  | some d => simp only [St.put]; split <;> exact ⟨rfl, rfl⟩

theorem drop_loc (s : St) (d : Option Tmp) : (s.drop d).loc = s.loc ∧ (s.drop d).n = s.n := by
  cases d <;> exact ⟨rfl, rfl⟩

theorem Kept.put (wrt : Nat → Bool) (s : St) (d : Option Tmp) (x : SV) : Kept wrt s (s.put d x) :=
  ⟨(put_loc s d x).2, by rw [(put_loc s d x).1]; exact Nat.le_refl _, fun i cs h _ => by rw [(put_loc s d x).1]; exact h⟩

theorem Kept.drop (wrt : Nat → Bool) (s : St) (d : Option Tmp) : Kept wrt s (s.drop d) :=
  ⟨(drop_loc s d).2, by rw [(drop_loc s d).1]; exact Nat.le_refl _, fun i cs h _ => by rw [(drop_loc s d).1]; exact h⟩

/-- What holds behind one operation. -/
def After (wrt : Nat → Bool) (K : St → H → Prop) (s : St) (bs : List Nat) (u : H) (a : Act) (w : World) (dst : Option Tmp) (a' : Act) (w' : World) : Prop :=
  ∃ s' u' bs' v, K s' u' ∧ Fits s' bs' u' a' w' ∧ Step u bs w u' bs' w' ∧ a' = a.put dst v ∧ Kept wrt s s'

section
variable {C : Cfg} {wrt : Nat → Bool} {s : St} {o : Oper} {u : H} {K : St → H → Prop} {bs : List Nat} {a : Act} {w : World} {Q : Exit → Act → World → Prop}

/-- An operation that yields a value and leaves the world. -/
theorem of_value {v : Value} {y : SV} (hf : Fits s bs u a w) (hr : (execOp a.eval o).run C.P w = .ok (.value v) w) (hc : conc bs y = some v) (hk : K (s.put o.dst y) u) :
    o.wp C.P a w (After wrt K s bs u a w o.dst) Q := by
  unfold Oper.wp
  rw [hr]
  exact ⟨_, u, bs, v, hk, hf.put o.dst hc, Step.refl hf.sub, rfl, Kept.put wrt s o.dst y⟩

/-- An operation that yields a value, what is known may have grown. -/
theorem of_grown {v : Value} {w' : World} {u' : H} (hf : Fits s bs u a w) (hr : (execOp a.eval o).run C.P w = .ok (.value v) w') (hs : Step u [] w u' [] w') (hk : K (s.put o.dst (.v v)) u') :
    o.wp C.P a w (After wrt K s bs u a w o.dst) Q := by
  unfold Oper.wp
  rw [hr]
  exact ⟨_, u', bs, v, hk, (hf.step hs).put o.dst (x := .v v) rfl, hs.hide bs, rfl, Kept.put wrt s o.dst _⟩

/-- A value that hangs on the slots alone. -/
def PV (C : Cfg) (s : St) (o : Oper) (u : H) (K : St → H → Prop) (bs : List Nat) (a : Act) : Prop :=
  ∃ y v, K (s.put o.dst y) u ∧ conc bs y = some v ∧ ∀ w, (execOp a.eval o).run C.P w = .ok (.value v) w

theorem of_PV (hf : Fits s bs u a w) (h : PV C s o u K bs a) : o.wp C.P a w (After wrt K s bs u a w o.dst) Q := by
  obtain ⟨y, v, hk, hc, hr⟩ := h
  exact of_value hf (hr w) hc hk

/-- A value that hangs on the slots, and on memory that is known. -/
def LV (C : Cfg) (s : St) (o : Oper) (u : H) (K : St → H → Prop) (bs : List Nat) (a : Act) : Prop :=
  ∃ y v, K (s.put o.dst y) u ∧ conc bs y = some v ∧ ∀ w, FitsW s.loc bs u w → (execOp a.eval o).run C.P w = .ok (.value v) w

theorem of_LV (hf : Fits s bs u a w) (h : LV C s o u K bs a) : o.wp C.P a w (After wrt K s bs u a w o.dst) Q := by
  obtain ⟨y, v, hk, hc, hr⟩ := h
  exact of_value hf (hr w hf.w) hc hk

theorem of_SemT {m : Sem Value} {ss : List Sh} (hf : Fits s bs u a w) (h : SemT C.P m ss u (contC s o.dst ss K))
    (hr : ∀ v w', m.run C.P w = .ok v w' → (execOp a.eval o).run C.P w = .ok (.value v) w' ∨ (execOp a.eval o).run C.P w = .ok .skip w' ∧ v = undef) :
    o.wp C.P a w (After wrt K s bs u a w o.dst) Q := by
  obtain ⟨v, w', u', e, ⟨vs, hv, rfl, hK⟩, hs⟩ := h w hf.sub
  have hK' : K (s.put o.dst (.v (encRes ss vs))) u' := (unC_lamC hv _).1 hK
  rcases hr _ _ e with h1 | ⟨h1, h2⟩
  · exact of_grown hf h1 hs hK'
  · unfold Oper.wp
    rw [h1]
    rw [h2] at hK'
    exact ⟨_, u', bs, undef, hK', (hf.step hs).put o.dst (x := .v undef) rfl, hs.hide bs, rfl, Kept.put wrt s o.dst _⟩

theorem of_ClT {f : FuncId} {args : Array Value} {ss : List Sh} (hf : Fits s bs u a w) (h : ClT C.P f args ss u (contC s o.dst ss K))
    (hr : (execOp a.eval o).run C.P w = .ok (.enter f args) w) : o.wp C.P a w (After wrt K s bs u a w o.dst) Q := by
  unfold Oper.wp
  rw [hr]
  refine (h w hf.sub).mono ?_
  rintro e w' ⟨v, u', rfl, ⟨vs, hv, rfl, hK⟩, hs⟩
  have hK' : K (s.put o.dst (.v (encRes ss vs))) u' := (unC_lamC hv _).1 hK
  exact ⟨_, u', bs, _, hK', (hf.step hs).put o.dst (x := .v _) rfl, hs.hide bs, rfl, Kept.put wrt s o.dst _⟩

theorem vals_eval (hf : FitsE s bs a) {xs : Array Operand} {vs : List Value} (h : vals s xs = some vs) : xs.map a.eval = vs.toArray := by
  unfold vals at h
  have key : ∀ (l : List Operand) (vs : List Value), l.mapM s.val = some vs → l.map a.eval = vs := by
    intro l
    induction l with
    | nil => intro vs h; simp at h; subst h; rfl
    | cons x l ih =>
      intro vs h
      simp only [List.mapM_cons, Option.bind_eq_bind, Option.bind_eq_some_iff, Option.pure_def, Option.some.injEq] at h
      obtain ⟨y, hy, ys, hys, rfl⟩ := h
      simp only [List.map_cons, ih ys hys, hf.val hy]
  apply Array.ext'
  simp only [Array.toList_map]
  exact key _ _ h

theorem hasBody_spec {P : Program} {f : FuncId} (h : hasBody P f = true) : ∃ fn, P.funcs[f]? = some fn ∧ fn.body.isSome = true := by
  unfold hasBody at h
  split at h
  · rename_i fn e; exact ⟨fn, e, h⟩
  · cases h

theorem callFunc_run (hG : Good C) {f : FuncId} (h : ∃ fn, C.P.funcs[f]? = some fn ∧ fn.body.isSome = true) (args : Array Value) (w : World) :
    (callFunc f args).run C.P w = .ok (.enter f args) w := by
  obtain ⟨fn, e, hb⟩ := h
  have h1 := hG.ng f fn e
  obtain ⟨b, hb'⟩ := Option.isSome_iff_exists.1 hb
  simp only [callFunc, Sem.run_bind, program, Sem.run, Result.andThen_ok, e]
  simp [h1, hb']

/-- What semOf tells is what the operation does. -/
theorem semOf_run (hs : ∀ cs b, o.op ≠ .select cs b) (hf : FitsE s bs a) (hk : known s o = true) {m : Sem Value} (hm : semOf s o = some m) {v : Value} {w' : World} (hr : m.run C.P w = .ok v w') :
    (execOp a.eval o).run C.P w = .ok (.value v) w' ∨ (execOp a.eval o).run C.P w = .ok .skip w' ∧ v = undef := by
  have hu : ∀ x : Sem Unit, (unit x).run C.P w = .ok v w' → (do x; pure Next.skip : Sem Next).run C.P w = .ok .skip w' ∧ v = undef := by
    intro x hx
    simp only [unit, Sem.run_bind] at hx ⊢
    cases hxr : x.run C.P w with
    | ok z w2 =>
      rw [hxr] at hx
      simp only [Result.andThen_ok] at hx ⊢
      cases hx
      exact ⟨rfl, rfl⟩
    | halt z w2 => rw [hxr] at hx; simp at hx
  have hv : ∀ x : Sem Value, x.run C.P w = .ok v w' → (do pure (Next.value (← x)) : Sem Next).run C.P w = .ok (.value v) w' := by
    intro x hx
    simp only [Sem.run_bind, hx, Result.andThen_ok]
    rfl
  rw [exec_rho hf hs hk]
  unfold semOf at hm
  unfold execOp
  split at hm
  all_goals try (rename_i e; rw [e]; cases hm; simp only [])
  case _ => exact .inl (hv _ hr)
  case _ => exact .inr (hu _ hr)
  case _ => exact .inr (hu _ hr)
  case _ => exact .inl (hv _ hr)
  case _ => exact .inl (hv _ hr)
  case _ => exact .inl (hv _ hr)
  case _ => exact .inl (hv _ hr)
  case _ => exact .inl (hv _ hr)
  case _ => exact .inl (hv _ hr)
  case _ => exact .inl (hv _ hr)
  case _ => exact .inl (hv _ hr)
  case _ => exact .inl (hv _ hr)
  case _ => exact .inl (hv _ hr)
  case _ => exact .inl (hv _ hr)
  case _ => exact .inl (hv _ hr)
  case _ => exact .inr (hu _ hr)
  case _ c e =>
    rw [e]
    simp only []
    split at hm
    all_goals try (rename_i hc; cases hm; left; simp only [resolve, hc, pure_bind, invoke, builtin]; exact hv _ hr)
    · rename_i f hc
      cases hm
      left
      simp only [resolve, hc, St.rho, St.val, St.sv, Option.bind_some, SV.val, Option.getD_some, Deferred.ofValue, pure_bind, invoke, Array.append_empty, Array.empty_append]
      simp only [callX, Sem.run_bind] at hr
      cases hx : (callFunc f (Array.map s.rho c.args)).run C.P w with
      | halt z w2 => rw [hx] at hr; simp at hr
      | ok z w2 =>
        rw [hx] at hr
        simp only [Result.andThen_ok] at hr
        cases z <;> simp only [] at hr <;> first
          | (have hr2 : Result.ok _ w2 = Result.ok v w' := hr; cases hr2; rfl)
          | (simp [stuck] at hr)
    · cases hm
  case _ => cases hm

theorem other_sound (hs : ∀ cs b, o.op ≠ .select cs b) (hf : Fits s bs u a w) (h : other C s o u K) : o.wp C.P a w (After wrt K s bs u a w o.dst) Q := by
  unfold other at h
  split at h
  · rename_i v e
    exact of_value (y := .v v) hf (plainVal_run hf.toFitsE e w) rfl h
  · split at h
    · rename_i hk hm hsh
      exact of_SemT hf h fun v w' hr => semOf_run hs hf.toFitsE hk hm hr
    · exact h.elim

theorem at'_add (p : Addr) (i : Nat) : p.at' i = p.add i := by
  cases i with
  | zero => simp [Addr.at', Addr.add]
  | succ i => rfl

theorem ldM_run {P : Program} {p : Addr} : ∀ (ts : List CT) (i : Nat) (f : List Value → Prop), ldM u p i ts f →
    ∃ vs, Kinds ts vs ∧ f vs ∧ ∀ w acc, Sub u w → (loadCellsFrom p i ts.length acc).run P w = .ok (acc ++ vs.toArray) w := by
  intro ts
  induction ts with
  | nil => intro i f h; exact ⟨[], .nil, h, fun w acc _ => by simp [loadCellsFrom]⟩
  | cons t ts ih =>
    intro i f h
    obtain ⟨x, hx, hr⟩ := h
    obtain ⟨vs, hk, hfv, hrun⟩ := ih (i + 1) _ hr
    refine ⟨t.enc x :: vs, .cons x hk, hfv, fun w acc hsub => ?_⟩
    rw [at'_add] at hx
    have h1 := hsub.cell hx
    simp only [List.length_cons, loadCellsFrom, Sem.run_bind, load, Sem.run, h1, Result.andThen_ok]
    rw [hrun w _ hsub]
    simp

theorem kinds_len {ts : List CT} {vs : List Value} (h : Kinds ts vs) : vs.length = ts.length := by
  induction h with
  | nil => rfl
  | cons _ _ ih => simp [ih]

/-- What shOf tells of a type. -/
theorem shOf_spec {P : Program} {t : TypeId} {sh : Sh} (h : shOf P t = some sh) :
    ∃ i d, P.info? t = some i ∧ P.underlying t = some d ∧ i.size = sh.cts.length ∧
      (∀ w, (isAgg t).run P w = .ok (match sh with | .one _ => false | .agg _ => true) w) := by
  unfold shOf at h
  split at h
  · rename_i i hi
    split at h
    · rename_i cs d hz hd
      split at h
      · rename_i ha hb
        cases h
        refine ⟨i, d, hi, by assumption, ?_, ?_⟩
        · have := Nat.eq_of_beq_eq_true hb; simp [Sh.cts, this]
        · intro w
          unfold aggOf at ha
          rw [hd] at ha
          simp only [isAgg, Sem.run_bind, underlying, program, Sem.run, Result.andThen_ok, hd]
          cases d <;> simp_all
      · cases h
    · rename_i z d _ _ _
      have hd : P.underlying t = some d := by assumption
      split at h
      · rename_i ha hb
        cases h
        refine ⟨i, d, hi, by assumption, ?_, ?_⟩
        · have := Nat.eq_of_beq_eq_true hb; simp [Sh.cts, ← this]
        · intro w
          unfold aggOf at ha
          rw [hd] at ha
          simp only [isAgg, Sem.run_bind, underlying, program, Sem.run, Result.andThen_ok, hd]
          cases d <;> simp_all
      · cases h
    · cases h
  · cases h

theorem sizeOf_run {P : Program} {t : TypeId} {i : TypeInfo} (h : P.info? t = some i) (w : World) : (sizeOf t).run P w = .ok i.size w := by
  simp [sizeOf, typeInfo, program, Sem.run, h]

theorem loadVar_run {P : Program} {t : TypeId} {sh : Sh} (h : shOf P t = some sh) (p : Addr) {vs : List Value} (hk : vs.length = sh.cts.length)
    (hr : (loadCellsFrom p 0 sh.cts.length #[]).run P w = .ok vs.toArray w) (hw : ∀ c, sh = .one c → ∃ v, vs = [v] ∧ w.cell? p = some v) :
    (loadVar t p).run P w = .ok (sh.mk vs) w := by
  obtain ⟨i, d, hi, hd, hsz, ha⟩ := shOf_spec h
  unfold loadVar
  rw [Sem.run_bind, ha]
  cases sh with
  | one c =>
    obtain ⟨v, rfl, hv⟩ := hw c rfl
    simp [load, Sem.run, hv, Sh.mk]
  | agg cs =>
    simp only [Result.andThen_ok, if_true, Sem.run_bind, sizeOf_run hi, loadCells, hsz]
    rw [hr]
    simp [Sh.mk]

/-- Only block b has been written. -/
structure Wrote (b : Nat) (o : Obj) (w w' : World) : Prop where
  at_ : w'.heap[b]? = some o
  size : w'.heap.size = w.heap.size
  os : w'.os = w.os
  tape : w'.tape = w.tape
  output : w'.output = w.output
  drawn : w.drawn ≤ w'.drawn
  rest : ∀ x, x ≠ b → w'.heap[x]? = w.heap[x]?

theorem Wrote.refl {b : Nat} {o : Obj} {w : World} (h : w.heap[b]? = some o) : Wrote b o w w := ⟨h, rfl, rfl, rfl, rfl, Nat.le_refl _, fun _ _ => rfl⟩
theorem Wrote.trans {b : Nat} {o o' : Obj} {w w' w'' : World} (h : Wrote b o w w') (k : Wrote b o' w' w'') : Wrote b o' w w'' :=
  ⟨k.at_, k.size.trans h.size, k.os.trans h.os, k.tape.trans h.tape, k.output.trans h.output, Nat.le_trans h.drawn k.drawn, fun x hx => (k.rest x hx).trans (h.rest x hx)⟩

theorem Wrote.setCell {b off : Nat} {c : Array Value} {T : TypeId} {w : World} (h : w.heap[b]? = some (.cells c T (0, 0))) (v : Value) :
    Wrote b (.cells (c.setIfInBounds off v) T (0, 0)) w (w.setCell ⟨b, off, none⟩ v) := by
  refine ⟨?_, by simp [World.setCell], rfl, rfl, rfl, Nat.le_refl _, fun x hx => ?_⟩
  · simp only [World.setCell, Array.getElem?_modify, if_true, h, Option.map_some]
    simp
  · simp only [World.setCell, Array.getElem?_modify]
    rw [if_neg (fun e => hx e.symm)]

theorem storeCells_run {P : Program} {b off : Nat} {T : TypeId} : ∀ (vs : List Value) (i : Nat) (c : Array Value) (w : World), w.heap[b]? = some (.cells c T (0, 0)) →
    off + i + vs.length ≤ c.size → (∀ v ∈ vs, v.oneCell' = true) → ∃ w', (storeCells ⟨b, off, none⟩ vs i).run P w = .ok () w' ∧ Wrote b (.cells (wr c (off + i) vs) T (0, 0)) w w' := by
  intro vs
  induction vs with
  | nil => intro i c w h _ _; exact ⟨w, rfl, .refl h⟩
  | cons v vs ih =>
    intro i c w h hl h1
    simp only [List.length_cons] at hl
    have hw := Wrote.setCell (off := off + i) h v
    obtain ⟨w', hr, hw'⟩ := ih (i + 1) _ _ hw.at_ (by simp; omega) (fun x hx => h1 x (.tail _ hx))
    refine ⟨w', ?_, ?_⟩
    · have ha : (⟨b, off, none⟩ : Addr).add i = ⟨b, off + i, none⟩ := by unfold Addr.add; split <;> simp_all
      have hc : w.cell? ⟨b, off + i, none⟩ = some c[off + i] := by
        simp only [World.cell?, h]
        simp [Array.getElem?_eq_getElem (show off + i < c.size by omega)]
      have hfz : w.frozen? ⟨b, off + i, none⟩ = false := by simp [World.frozen?, h]
      simp only [storeCells, Sem.run_bind, ha]
      rw [run_store P w _ v _ (h1 v (.head _)), hc]
      simp only [hfz, Bool.false_eq_true, if_false, Result.andThen_ok]
      exact hr
    · have := hw.trans hw'
      simpa [wr, Nat.add_assoc] using this

theorem storeVar_run {P : Program} {t : TypeId} {i : TypeInfo} (hi : P.info? t = some i) {b off : Nat} {T : TypeId} {v : Value} (hsz : v.cells.size = i.size) {c : Array Value} {w : World}
    (h : w.heap[b]? = some (.cells c T (0, 0))) (hl : off + v.cells.toList.length ≤ c.size) (h1 : ∀ x ∈ v.cells.toList, x.oneCell' = true) :
    ∃ w', (storeVar t ⟨b, off, none⟩ v).run P w = .ok () w' ∧ Wrote b (.cells (wr c off v.cells.toList) T (0, 0)) w w' := by
  obtain ⟨w', hr, hw⟩ := storeCells_run (P := P) (off := off) v.cells.toList 0 c w h (by simpa using hl) h1
  refine ⟨w', ?_, by simpa using hw⟩
  unfold storeVar
  rw [Sem.run_bind, sizeOf_run hi]
  simp only [Result.andThen_ok, hsz, ne_eq, not_true_eq_false, if_false]
  exact hr

theorem loadBox_run {P : Program} {b off : Nat} {T : TypeId} {cs : List Value} {w : World} (h : w.heap[b]? = some (.cells cs.toArray T (0, 0))) : ∀ (n i : Nat) (acc : Array Value),
    off + i + n ≤ cs.length → (loadCellsFrom ⟨b, off, none⟩ i n acc).run P w = .ok (acc ++ ((cs.drop (off + i)).take n).toArray) w := by
  intro n
  induction n with
  | zero => intro i acc _; simp [loadCellsFrom]
  | succ n ih =>
    intro i acc hl
    have ha : (⟨b, off, none⟩ : Addr).add i = ⟨b, off + i, none⟩ := by unfold Addr.add; split <;> simp_all
    have hlt : off + i < cs.length := by omega
    have hc : w.cell? ⟨b, off + i, none⟩ = some cs[off + i] := by
      simp only [World.cell?, h]
      simp [hlt]
    simp only [loadCellsFrom, Sem.run_bind, load, Sem.run, ha, hc, Result.andThen_ok]
    rw [ih (i + 1) _ (by omega)]
    rw [List.drop_eq_getElem_cons hlt, List.take_succ_cons, ← Nat.add_assoc]
    simp

/-- A new block that nobody else knows. -/
theorem Fits.newBox (hf : Fits s bs u a w) (cs : List Value) (T : TypeId) :
    Fits { s with loc := s.loc ++ [cs] } (bs ++ [w.heap.size]) u a (w.alloc (.cells cs.toArray T (0, 0))) ∧
    Step u bs w u (bs ++ [w.heap.size]) (w.alloc (.cells cs.toArray T (0, 0))) := by
  have old : ∀ (b : Nat) (o : Obj), w.heap[b]? = some o → (w.alloc (.cells cs.toArray T (0, 0))).heap[b]? = some o := by
    intro b o e
    have hlt : b < w.heap.size := by
      rcases Nat.lt_or_ge b w.heap.size with k | k
      · exact k
      · rw [Array.getElem?_eq_none k] at e; cases e
    show (w.heap.push _)[b]? = _
    rw [Array.getElem?_push, if_neg (by omega)]
    exact e
  refine ⟨⟨⟨hf.defers, hf.n, ?_⟩, by simp [hf.len], ?_, ?_, ?_, fun b o e => old b o (hf.sub b o e)⟩, ⟨fun b o e => old b o (hf.sub b o e), rfl, rfl, rfl, Nat.le_refl _, by rw [World.size_alloc]; omega, ?_, fun _ _ e => e, [w.heap.size], rfl, by simp⟩⟩
  · intro p hp
    obtain ⟨v, h1, h2⟩ := hf.env p hp
    refine ⟨v, ?_, h2⟩
    cases hx : p.2 <;> rw [hx] at h1 <;> first | exact h1 | skip
    rename_i i off
    simp only [conc] at h1 ⊢
    split at h1
    · rename_i b hb
      have hlt : i < bs.length := by
        rcases Nat.lt_or_ge i bs.length with k | k
        · exact k
        · rw [List.getElem?_eq_none k] at hb; cases hb
      rw [List.getElem?_append_left hlt, hb]; exact h1
    · cases h1
  · intro i cs' e
    rcases Nat.lt_or_ge i s.loc.length with k | k
    · rw [List.getElem?_append_left k] at e
      obtain ⟨b, T', h1, h2⟩ := hf.loc i cs' e
      exact ⟨b, T', by rw [List.getElem?_append_left (by rw [hf.len]; exact k)]; exact h1, old _ _ h2⟩
    · rw [List.getElem?_append_right k] at e
      have hi : i = s.loc.length := by
        rcases Nat.eq_or_lt_of_le k with k' | k'
        · exact k'.symm
        · rw [List.getElem?_eq_none (by simp; omega)] at e; cases e
      subst hi
      simp only [Nat.sub_self, List.getElem?_cons_zero, Option.some.injEq] at e
      subst e
      refine ⟨w.heap.size, T, by rw [← hf.len]; simp, ?_⟩
      show (w.heap.push _)[w.heap.size]? = _
      simp
  · rw [List.nodup_append]
    refine ⟨hf.nodup, by simp, ?_⟩
    intro x hx y hy
    simp only [List.mem_singleton] at hy
    subst hy
    have := (hf.hid x hx).2
    omega
  · intro b hb
    rcases List.mem_append.1 hb with hb | hb
    · exact ⟨(hf.hid b hb).1, by have := (hf.hid b hb).2; rw [World.size_alloc]; omega⟩
    · simp only [List.mem_singleton] at hb
      subst hb
      exact ⟨hf.sub.none (Nat.le_refl _), by rw [World.size_alloc]; omega⟩
  · intro b hb _ _
    show (w.heap.push _)[b]? = _
    rw [Array.getElem?_push, if_neg (by omega)]

/-- A new block that is known. -/
theorem Fits.newKnown (hf : Fits s bs u a w) (o : Obj) :
    Fits s bs (u.ins w.heap.size o) a (w.alloc o) ∧ Step u bs w (u.ins w.heap.size o) bs (w.alloc o) := by
  have old : ∀ (b : Nat) (p : Obj), w.heap[b]? = some p → (w.alloc o).heap[b]? = some p := by
    intro b p e
    have hlt : b < w.heap.size := by
      rcases Nat.lt_or_ge b w.heap.size with k | k
      · exact k
      · rw [Array.getElem?_eq_none k] at e; cases e
    show (w.heap.push _)[b]? = _
    rw [Array.getElem?_push, if_neg (by omega)]
    exact e
  have hsub : Sub (u.ins w.heap.size o) (w.alloc o) := by
    intro b p e
    unfold H.ins at e
    split at e
    · rename_i hb; subst hb; cases e
      show (w.heap.push _)[w.heap.size]? = _
      simp
    · exact old b p (hf.sub b p e)
  refine ⟨⟨⟨hf.defers, hf.n, hf.env⟩, hf.len, ?_, hf.nodup, ?_, hsub⟩, ⟨hsub, rfl, rfl, rfl, Nat.le_refl _, by rw [World.size_alloc]; omega, ?_, ?_, [], by simp, by simp⟩⟩
  · intro i cs e
    obtain ⟨b, T, h1, h2⟩ := hf.loc i cs e
    exact ⟨b, T, h1, old _ _ h2⟩
  · intro b hb
    have := hf.hid b hb
    exact ⟨by rw [H.ins_other u o (by omega)]; exact this.1, by rw [World.size_alloc]; omega⟩
  · intro b hb _ _
    show (w.heap.push _)[b]? = _
    rw [Array.getElem?_push, if_neg (by omega)]
  · intro b hb e
    rw [H.ins_other u o (by omega)]; exact e

theorem setL_get {α : Type} (l : List α) (i : Nat) (y : α) (j : Nat) : (setL l i y)[j]? = if i = j ∧ j < l.length then some y else l[j]? := by
  induction l generalizing i j with
  | nil => simp [setL]
  | cons x xs ih =>
    cases i with
    | zero => cases j <;> simp [setL]
    | succ i => cases j with
      | zero => simp [setL]
      | succ j => simp only [setL, List.getElem?_cons_succ, ih]; simp

theorem setL_len {α : Type} (l : List α) (i : Nat) (y : α) : (setL l i y).length = l.length := by
  induction l generalizing i with
  | nil => rfl
  | cons x xs ih => cases i <;> simp [setL, ih]

theorem wr_over : ∀ (vs cs : List Value) (off : Nat), off + vs.length ≤ cs.length → wr cs.toArray off vs = (over cs off vs).toArray := by
  intro vs
  induction vs with
  | nil => intro cs off _; simp [wr, over]
  | cons v vs ih =>
    intro cs off h
    simp only [List.length_cons] at h
    simp only [wr]
    rw [List.setIfInBounds_toArray, ih _ _ (by simp; omega)]
    congr 1
    apply List.ext_getElem?
    intro j
    simp only [over, List.getElem?_append, List.length_append, List.length_take, List.length_set, List.getElem?_take, List.getElem?_drop, List.getElem?_set, List.length_cons]
    have e1 : min off cs.length = off := by omega
    have e2 : min (off + 1) cs.length = off + 1 := by omega
    rw [e1, e2]
    rcases Nat.lt_trichotomy j off with h1 | h1 | h1
    · rw [if_pos (by omega), if_pos (by omega), if_pos (by omega), if_neg (by omega), if_pos (by omega), if_pos (by omega), if_pos (by omega)]
    · subst h1
      rw [if_pos (by omega), if_pos (by omega), if_pos (by omega), if_pos rfl, if_pos (by omega), if_pos (by omega), if_neg (by omega)]
      simp
    · by_cases h2 : j < off + (vs.length + 1)
      · rw [if_pos (by omega), if_neg (by omega), if_pos h2, if_neg (by omega)]
        have : j - off = (j - (off + 1)) + 1 := by omega
        rw [this, List.getElem?_cons_succ]
      · rw [if_neg (by omega), if_neg (by omega)]
        rw [if_neg (by omega)]
        congr 1
        omega

theorem boolOf_conc {x : SV} {b : Bool} (h : boolOf x = some b) (bs : List Nat) : conc bs x = some (.bool b) := by
  unfold boolOf at h
  split at h <;> first | (cases h; rfl) | cases h

section
variable {P : Program} (d : Nat) {t : TypeId} (w : World)
theorem eqIn_ptr {e : TypeId} (hu : P.underlying t = some (.pointer e)) (p : Option Addr) : (Op.equalIn (d + 1) t (.pointer p) (.pointer none)).run P w = .ok p.isNone w := by
  simp only [Op.equalIn, Sem.run_bind, underlying, program, Sem.run, Result.andThen_ok, hu]
  cases p <;> simp
theorem eqIn_slice {e : TypeId} (hu : P.underlying t = some (.slice e)) (a : Option Addr) (n c m k : Nat) : (Op.equalIn (d + 1) t (.slice a n c) (.slice none m k)).run P w = .ok a.isNone w := by
  simp only [Op.equalIn, Sem.run_bind, underlying, program, Sem.run, Result.andThen_ok, hu]
  cases a <;> simp
theorem eqIn_map {k e : TypeId} (hu : P.underlying t = some (.map k e)) (a : Option Nat) : (Op.equalIn (d + 1) t (.map a) (.map none)).run P w = .ok a.isNone w := by
  simp only [Op.equalIn, Sem.run_bind, underlying, program, Sem.run, Result.andThen_ok, hu]
  cases a <;> simp
theorem eqIn_bool (hu : P.underlying t = some .bool) (a b : Bool) : (Op.equalIn (d + 1) t (.bool a) (.bool b)).run P w = .ok (a == b) w := by
  simp only [Op.equalIn, Sem.run_bind, underlying, program, Sem.run, Result.andThen_ok, hu]
  rfl
end

theorem equal_of {P : Program} {t : TypeId} {x y : Value} {b : Bool} {w : World} (h : (Op.equalIn (9999 + 1) t x y).run P w = .ok b w) : (Op.equal t x y).run P w = .ok b w := h

set_option maxHeartbeats 1000000 in
theorem eqSV_run (hG : Good C) {t : TypeId} {x y : SV} {z : PD} (h : eqSV C t x y = some z) (bs : List Nat) {vx vy : Value} (hx : conc bs x = some vx) (hy : conc bs y = some vy) (ox oy : Operand) (w : World) :
    (do eqGuard .eql t ox oy vx vy; binOp .eql t vx vy : Sem Value).run C.P w = .ok (.bool (@decide z.p z.d)) w ∧
    (do eqGuard .neq t ox oy vx vy; binOp .neq t vx vy : Sem Value).run C.P w = .ok (.bool (!@decide z.p z.d)) w := by
  unfold eqSV at h
  split at h
  · rename_i p
    cases hx; cases hy
    split at h
    · rename_i e hu
      cases h
      have hr := eqIn_ptr 9999 w hu p
      have hd : @decide (p = none) (decNone p) = p.isNone := by cases p <;> simp
      simp only [eqGuard_at_pointer, pure_bind, binOp, Sem.run_bind]
      rw [equal_of hr]
      simp [hd]
    · cases h
  · rename_i q
    cases hx; cases hy
    split at h
    · rename_i e hu
      cases h
      have hr := eqIn_ptr 9999 w hu (some q)
      simp only [eqGuard_at_pointer, pure_bind, binOp, Sem.run_bind]
      rw [equal_of hr]
      simp
    · cases h
  · rename_i a n c m k
    cases hx; cases hy
    split at h
    · rename_i e hu
      cases h
      have hr := eqIn_slice 9999 w hu a n c m k
      have hd : @decide (a = none) (decNone a) = a.isNone := by cases a <;> simp
      simp only [eqGuard_at_slice, pure_bind, binOp, Sem.run_bind]
      rw [equal_of hr]
      simp [hd]
    · cases h
  · rename_i a
    cases hx; cases hy
    split at h
    · rename_i k e hu
      cases h
      have hr := eqIn_map 9999 w hu a
      have hd : @decide (a = none) (decNone a) = a.isNone := by cases a <;> simp
      simp only [eqGuard_at_map, pure_bind, binOp, Sem.run_bind]
      rw [equal_of hr]
      simp [hd]
    · cases h
  · rename_i xs ys
    cases hx; cases hy
    split at h
    · rename_i n hm
      split at h
      · rename_i hl1 hl2
        obtain ⟨h1, h2, h3⟩ := hG.eq t n hm xs ys z (Nat.eq_of_beq_eq_true hl1) (Nat.eq_of_beq_eq_true hl2) h ox oy w
        simp only [Sem.run_bind, h1, h2, Result.andThen_ok, binOp, h3]
        exact ⟨rfl, rfl⟩
      · cases h
    · cases h
  · rename_i x y
    cases hx; cases hy
    cases h
    simp only [eqGuard_at_string, pure_bind, binOp, Op.stringOp]
    constructor
    · show Result.ok _ _ = _
      congr 2
      by_cases e : x.toList = y.toList <;> simp [e]
    · show Result.ok _ _ = _
      congr 2
      by_cases e : x.toList = y.toList <;> simp [e]
  · split at h
    · rename_i a b ha hb hu
      cases h
      have h1 := boolOf_conc ha bs
      have h2 := boolOf_conc hb bs
      rw [hx] at h1; rw [hy] at h2
      cases h1; cases h2
      have hr := eqIn_bool 9999 w hu a b
      simp only [eqGuard_at_bool, pure_bind, binOp, Sem.run_bind]
      rw [equal_of hr]
      constructor
      · show Result.ok _ _ = _
        congr 2
      · show Result.ok _ _ = _
        congr 2
    · cases h

end
end Go.Proofs.YtbohcdjoglidhaaGreatDoor

/- VcSound2 -/
namespace Go.Proofs.YtbohcdjoglidhaaGreatDoor

section
variable {C : Cfg} {wrt : Nat → Bool} {s : St} {o : Oper} {u : H} {K : St → H → Prop} {bs : List Nat} {a : Act} {w : World} {Q : Exit → Act → World → Prop}

theorem run_v {P : Program} {m : Sem Value} {v : Value} {w w' : World} (h : m.run P w = .ok v w') : (do pure (Next.value (← m)) : Sem Next).run P w = .ok (.value v) w' := by
  simp only [Sem.run_bind, h, Result.andThen_ok]; rfl

theorem run_u {P : Program} {m : Sem Unit} {w w' : World} (h : m.run P w = .ok () w') : (do m; pure Next.skip : Sem Next).run P w = .ok .skip w' := by
  simp only [Sem.run_bind, h, Result.andThen_ok]; rfl

theorem s_move (hf : FitsE s bs a) {x : Operand} (e : o.op = .move x ∨ o.op = .assign x) (h : match s.sv x with | some y => K (s.put o.dst y) u | none => False) :
    PV C s o u K bs a := by
  split at h
  · rename_i y hy
    refine ⟨y, a.eval x, h, (hf.sv hy), fun w => ?_⟩
    rcases e with e | e <;> (unfold execOp; rw [e]; rfl)
  · exact h.elim

theorem s_pick (hf : FitsE s bs a) {c x y : Operand} (e : o.op = .pick c x y) {b : Bool} (hc : a.eval c = .bool b) {z : SV} (hz : s.sv (if b then x else y) = some z) (h : K (s.put o.dst z) u) :
    PV C s o u K bs a := by
  refine ⟨z, a.eval (if b then x else y), h, (hf.sv hz), fun w => ?_⟩
  unfold execOp
  rw [e]
  simp only [hc]
  cases b <;> rfl

theorem conc_v (hf : FitsE s bs a) {x : Operand} {v : Value} (h : s.sv x = some (.v v)) : a.eval x = v := by
  have := hf.sv h
  simp only [conc, Option.some.injEq] at this
  exact this.symm

theorem conc_ptr (hf : FitsE s bs a) {x : Operand} {p : Addr} (h : s.sv x = some (.ptr p)) : a.eval x = .pointer (some p) := by
  have := hf.sv h
  simp only [conc, Option.some.injEq] at this
  exact this.symm

theorem conc_loc (hf : FitsE s bs a) {x : Operand} {i off : Nat} (h : s.sv x = some (.loc i off)) : ∃ b, bs[i]? = some b ∧ a.eval x = .pointer (some ⟨b, off, none⟩) := by
  have := hf.sv h
  simp only [conc] at this
  split at this
  · rename_i b hb; simp only [Option.some.injEq] at this; exact ⟨b, hb, this.symm⟩
  · cases this

theorem s_binInt (hf : FitsE s bs a) {op : BinOp} {t t' : TypeId} {x y : Operand} (e : o.op = .binOp op t x y t') {k k' : IntKind} {m n : Int}
    (hx : s.sv x = some (.v (.int k m))) (hy : s.sv y = some (.v (.int k' n)))
    (h : match cmpI op m n with
      | some z => match kEq k' k with
        | true => K (s.put o.dst z) u
        | false => False
      | none => match isShift op || kEq k' k with
        | true => arithI C.wrap op k m n fun z => K (s.put o.dst (.v (.int k z))) u
        | false => False) : PV C s o u K bs a := by
  have ex := conc_v hf hx
  have ey := conc_v hf hy
  have hrun : ∀ v w, (binOp op t (.int k m) (.int k' n)).run C.P w = .ok v w → (execOp a.eval o).run C.P w = .ok (.value v) w := by
    intro v w hv
    unfold execOp
    rw [e]
    simp only [ex, ey, eqGuard_at_int, pure_bind]
    exact run_v hv
  split at h
  · rename_i z hz
    split at h
    · rename_i hk
      have := kEq_eq hk
      subst this
      obtain ⟨v, h1, h2⟩ := cmpI_run hz C.P t k' bs
      exact ⟨z, v, h, h1, fun w => hrun v w (h2 w)⟩
    · exact h.elim
  · split at h
    · rename_i hk
      obtain ⟨z, h1, h2⟩ := arithI_run h C.P t k' (by
        simp only [Bool.or_eq_true] at hk
        rcases hk with hk | hk
        · cases op <;> simp [isShift] at hk <;> simp
        · exact .inl (kEq_eq hk))
      exact ⟨.v (.int k z), _, h1, rfl, fun w => hrun _ w (h2 w)⟩
    · exact h.elim

theorem s_eq (hG : Good C) (hf : FitsE s bs a) {op : BinOp} {t t' : TypeId} {x y : Operand} (e : o.op = .binOp op t x y t') {p q : SV} (hx : s.sv x = some p) (hy : s.sv y = some q)
    {z : PD} (hz : eqSV C t p q = some z) (h : (op = .eql ∧ K (s.put o.dst (.dec z.p z.d)) u) ∨ (op = .neq ∧ K (s.put o.dst (.ndec z.p z.d)) u)) :
    PV C s o u K bs a := by
  have h12 := eqSV_run hG hz bs (hf.sv hx) (hf.sv hy) x y
  rcases h with ⟨rfl, h⟩ | ⟨rfl, h⟩
  · refine ⟨.dec z.p z.d, .bool (@decide z.p z.d), h, rfl, fun w => ?_⟩
    unfold execOp; rw [e]; exact run_v (h12 w).1
  · refine ⟨.ndec z.p z.d, .bool (!@decide z.p z.d), h, rfl, fun w => ?_⟩
    unfold execOp; rw [e]; exact run_v (h12 w).2

theorem s_not (_hf : FitsE s bs a) {t : TypeId} {x : Operand} (e : o.op = .unOp .not t x) {b : Bool} (hx : a.eval x = .bool b) {z : SV} (hz : conc bs z = some (.bool (!b))) (h : K (s.put o.dst z) u) :
    PV C s o u K bs a := by
  refine ⟨z, .bool (!b), h, hz, fun w => ?_⟩
  unfold execOp; rw [e]
  simp only [hx]
  rfl

theorem s_loadLoc (hf : FitsE s bs a) {t : TypeId} {x : Operand} (e : o.op = .load t x) {i off : Nat} (hx : s.sv x = some (.loc i off)) {sh : Sh} (hsh : shOf C.P t = some sh) {cs : List Value}
    (hl : s.loc[i]? = some cs) (hb : off + sh.cts.length ≤ cs.length) (h : K (s.put o.dst (.v (sh.mk ((cs.drop off).take sh.cts.length)))) u) :
    LV C s o u K bs a := by
  obtain ⟨b', h1', hev⟩ := conc_loc hf hx
  refine ⟨.v _, sh.mk ((cs.drop off).take sh.cts.length), h, rfl, fun w hw => ?_⟩
  obtain ⟨b, T, h1, h2⟩ := hw.loc i cs hl
  rw [h1] at h1'; cases h1'
  unfold execOp; rw [e]
  refine run_v ?_
  simp only [hev, Instr.loadAt, Instr.sureAddr, pure_bind]
  refine loadVar_run hsh _ (by simp; omega) ?_ ?_
  · have := loadBox_run (P := C.P) (off := off) h2 sh.cts.length 0 #[] (by simpa using hb)
    simpa using this
  · intro c hc
    subst hc
    simp only [Sh.cts, List.length_cons, List.length_nil] at hb ⊢
    have hlt : off < cs.length := by omega
    refine ⟨cs[off], ?_, ?_⟩
    · rw [List.drop_eq_getElem_cons hlt]; rfl
    · simp only [World.cell?, h2]; simp [hlt]

theorem s_loadPtr (hf : FitsE s bs a) {t : TypeId} {x : Operand} (e : o.op = .load t x) {p : Addr} (hx : s.sv x = some (.ptr p)) {sh : Sh} (hsh : shOf C.P t = some sh)
    (h : ldM u p 0 sh.cts fun vs => K (s.put o.dst (.v (sh.mk vs))) u) : LV C s o u K bs a := by
  obtain ⟨vs, hk, hK, hr⟩ := ldM_run (P := C.P) sh.cts 0 _ h
  refine ⟨.v _, sh.mk vs, hK, rfl, fun w hw => ?_⟩
  have hr1 := hr w #[] hw.sub
  unfold execOp; rw [e]
  refine run_v ?_
  simp only [conc_ptr hf hx, Instr.loadAt, Instr.sureAddr, pure_bind]
  refine loadVar_run hsh p (kinds_len hk) (by simpa using hr1) ?_
  intro c hc
  subst hc
  cases hk with
  | cons x hk' =>
    cases hk'
    obtain ⟨y, hy, _⟩ := h
    have hc := hw.sub.cell hy
    refine ⟨_, rfl, ?_⟩
    have hr' := hr1
    simp only [Sh.cts, List.length_cons, List.length_nil, loadCellsFrom, Sem.run_bind, load, Sem.run] at hr'
    have e0 : p.add 0 = p := by simp [Addr.add]
    rw [e0] at hr'
    have hc' : w.cell? p = some (CT.enc c y) := hc
    rw [hc'] at hr' ⊢
    simp at hr'
    rw [hr']

theorem ones_spec {vs : List Value} (h : ones vs = true) : ∀ v ∈ vs, v.oneCell' = true := by
  induction vs with
  | nil => simp
  | cons v vs ih =>
    simp only [ones, Bool.and_eq_true] at h
    intro x hx
    cases hx with
    | head => exact h.1
    | tail _ hx => exact ih h.2 x hx

theorem Kept.setLoc {i : Nat} (hw : wrt i = true) (l : List Value) : Kept wrt s { s with loc := setL s.loc i l } := by
  refine ⟨rfl, by simp [setL_len], ?_⟩
  intro j cs h hj
  simp only [setL_get]
  rw [if_neg]
  · exact h
  · rintro ⟨rfl, _⟩; rw [hw] at hj; cases hj

theorem s_storeLoc (hf : Fits s bs u a w) {t : TypeId} {x y : Operand} (e : o.op = .store t x y) {i off : Nat} (hx : s.sv x = some (.loc i off)) {v : Value} (hy : s.val y = some v)
    {sh : Sh} (hsh : shOf C.P t = some sh) {cs : List Value} (hl : s.loc[i]? = some cs) (hw : wrt i = true) (hsz : v.cells.size = sh.cts.length) (h1 : ones v.cells.toList = true)
    (hb : off + sh.cts.length ≤ cs.length) (h : K ({ s with loc := setL s.loc i (over cs off v.cells.toList) }.drop o.dst) u) : o.wp C.P a w (After wrt K s bs u a w o.dst) Q := by
  obtain ⟨b, T, hb1, hb2⟩ := hf.loc i cs hl
  obtain ⟨b', hb1', hev⟩ := conc_loc hf.toFitsE hx
  rw [hb1] at hb1'; cases hb1'
  obtain ⟨ti, d, hti, _, htsz, _⟩ := shOf_spec hsh
  have hvl : v.cells.toList.length = sh.cts.length := by rw [Array.length_toList]; exact hsz
  obtain ⟨w', hr, hwr⟩ := storeVar_run (P := C.P) hti (off := off) (v := v) (by rw [htsz]; exact hsz) hb2 (by rw [hvl]; simpa using hb) (ones_spec h1)
  rw [wr_over _ _ _ (by rw [hvl]; exact hb)] at hwr
  have hm : b ∈ bs := List.mem_of_getElem? hb1
  have hub := hf.hid b hm
  have hlt : i < bs.length := by
    rcases Nat.lt_or_ge i bs.length with k | k
    · exact k
    · rw [List.getElem?_eq_none k] at hb1; cases hb1
  have hsub : Sub u w' := by
    intro x p ex
    have hne : x ≠ b := fun e => by subst e; rw [hub.1] at ex; cases ex
    rw [hwr.rest x hne]; exact hf.sub x p ex
  have hf' : Fits { s with loc := setL s.loc i (over cs off v.cells.toList) } bs u a w' := by
    refine ⟨⟨hf.defers, hf.n, hf.env⟩, by simp [setL_len, hf.len], ?_, hf.nodup, fun x hx => ⟨(hf.hid x hx).1, by rw [hwr.size]; exact (hf.hid x hx).2⟩, hsub⟩
    intro j cs' ej
    simp only [setL_get] at ej
    split at ej
    · rename_i hj
      obtain ⟨rfl, _⟩ := hj
      cases ej
      exact ⟨b, T, hb1, hwr.at_⟩
    · rename_i hj
      obtain ⟨b2, T2, h3, h4⟩ := hf.loc j cs' ej
      refine ⟨b2, T2, h3, ?_⟩
      rw [hwr.rest b2 ?_]
      · exact h4
      · rintro rfl
        have hjl : j < bs.length := by
          rcases Nat.lt_or_ge j bs.length with k | k
          · exact k
          · rw [List.getElem?_eq_none k] at h3; cases h3
        have hij : i = j := by
          exact (List.getElem?_inj hlt hf.nodup (j := j)).1 (by rw [hb1, h3])
        subst hij
        exact hj ⟨rfl, by rw [← hf.len]; exact hlt⟩
  have hst : Step u bs w u bs w' := ⟨hsub, hwr.os, hwr.tape, hwr.output, hwr.drawn, by rw [hwr.size]; exact Nat.le_refl _, fun x hx hux hnx => hwr.rest x (fun e => by subst e; exact hnx hm), fun _ _ e => e, [], by simp, by simp⟩
  unfold Oper.wp
  have hrun : (execOp a.eval o).run C.P w = .ok .skip w' := by
    unfold execOp; rw [e]
    refine run_u ?_
    simp only [hev, hf.val hy, Instr.storeAt, Instr.sureAddr, pure_bind]
    exact hr
  rw [hrun]
  exact ⟨_, u, bs, undef, h, hf'.drop o.dst undef, hst, rfl, (Kept.setLoc hw _).trans (Kept.drop wrt _ o.dst)⟩

theorem s_storePtr (hf : Fits s bs u a w) {t : TypeId} {x y : Operand} (e : o.op = .store t x y) {p : Addr} (hx : s.sv x = some (.ptr p)) {v : Value} (hy : s.val y = some v)
    {sh : Sh} (hsh : shOf C.P t = some sh) (hsz : v.cells.size = sh.cts.length) (h : u.St p v.cells.toList fun u' => K (s.drop o.dst) u') : o.wp C.P a w (After wrt K s bs u a w o.dst) Q := by
  obtain ⟨c, T, hc, hsp, hl, h1, hK⟩ := h
  obtain ⟨ti, d, hti, _, htsz, _⟩ := shOf_spec hsh
  obtain ⟨b, off, sp⟩ := p
  simp only at hsp hc hl hK
  subst hsp
  have hh := hf.sub _ _ hc
  obtain ⟨w', hr, hwr⟩ := storeVar_run (P := C.P) hti (off := off) (v := v) (by rw [htsz]; exact hsz) hh hl h1
  have hsub : Sub (u.ins b (.cells (wr c off v.cells.toList) T (0, 0))) w' := by
    intro x p ex
    unfold H.ins at ex
    split at ex
    · rename_i hxb; subst hxb; cases ex; exact hwr.at_
    · rename_i hxb; rw [hwr.rest x hxb]; exact hf.sub x p ex
  have hne : ∀ x, u x = none → x ≠ b := fun x' hx' e' => by rw [e', hc] at hx'; cases hx'
  have hf' : Fits s bs (u.ins b (.cells (wr c off v.cells.toList) T (0, 0))) a w' := by
    refine ⟨⟨hf.defers, hf.n, hf.env⟩, hf.len, ?_, hf.nodup, ?_, hsub⟩
    · intro j cs' ej
      obtain ⟨b2, T2, h3, h4⟩ := hf.loc j cs' ej
      exact ⟨b2, T2, h3, by rw [hwr.rest b2 (hne b2 (hf.hid b2 (List.mem_of_getElem? h3)).1)]; exact h4⟩
    · intro x hx
      have := hf.hid x hx
      exact ⟨by rw [H.ins_other u _ (hne x this.1)]; exact this.1, by rw [hwr.size]; exact this.2⟩
  have hst : Step u bs w (u.ins b (.cells (wr c off v.cells.toList) T (0, 0))) bs w' :=
    ⟨hsub, hwr.os, hwr.tape, hwr.output, hwr.drawn, by rw [hwr.size]; exact Nat.le_refl _, fun x hx hux hnx => hwr.rest x (hne x hux), fun x _ hux => by rw [H.ins_other u _ (hne x hux)]; exact hux, [], by simp, by simp⟩
  unfold Oper.wp
  have hrun : (execOp a.eval o).run C.P w = .ok .skip w' := by
    unfold execOp; rw [e]
    refine run_u ?_
    simp only [conc_ptr hf.toFitsE hx, hf.val hy, Instr.storeAt, Instr.sureAddr, pure_bind]
    exact hr
  rw [hrun]
  exact ⟨_, _, bs, undef, hK, hf'.drop o.dst undef, hst, rfl, Kept.drop wrt _ o.dst⟩

theorem zeroOf_spec {P : Program} {t : TypeId} {cs : List Value} (h : zeroOf P t = some cs) (w : World) : ∃ z, (zeroValue t).run P w = .ok z w ∧ z.cells.toList = cs := by
  unfold zeroOf at h
  split at h
  · rename_i i hi
    cases hz : i.zero with
    | none => rw [hz] at h; cases h
    | some z =>
      rw [hz] at h
      simp only [Option.map_some, Option.some.injEq] at h
      exact ⟨z, by simp [zeroValue, typeInfo, program, Sem.run, hi, hz], h⟩
  · cases h

theorem newVar_run {P : Program} (t : TypeId) (v : Value) (w : World) : (newVar t v).run P w = .ok ⟨w.heap.size, 0, none⟩ (w.alloc (.cells v.cells t (0, 0))) := by
  simp only [newVar, newRow, newObj, Sem.run_bind, Sem.run, Result.andThen_ok]
  rfl

/-- A new variable, hidden or known. -/
theorem s_new (hf : Fits s bs u a w) {d : Nat} (hd : o.dst = some d) {t : TypeId} {v : Value} (hr : (execOp a.eval o).run C.P w = .ok (.value (.pointer (some ⟨w.heap.size, 0, none⟩))) (w.alloc (.cells v.cells t (0, 0))))
    (h : match memB C.exp d with
      | true => ∀ b, u b = none → K (s.put (some d) (.ptr ⟨b, 0, none⟩)) (u.ins b (.cells v.cells.toList.toArray t (0, 0)))
      | false => K ({ s with loc := s.loc ++ [v.cells.toList] }.put (some d) (.loc s.loc.length 0)) u) : o.wp C.P a w (After wrt K s bs u a w o.dst) Q := by
  unfold Oper.wp
  rw [hr]
  have e1 : v.cells.toList.toArray = v.cells := by simp
  split at h
  · have h' := h w.heap.size (hf.sub.none (Nat.le_refl _))
    rw [e1, ← hd] at h'
    obtain ⟨h1, h2⟩ := hf.newKnown (.cells v.cells t (0, 0))
    exact ⟨_, _, bs, _, h', h1.put o.dst (x := .ptr _) rfl, h2, rfl, Kept.put wrt s _ _⟩
  · obtain ⟨h1, h2⟩ := hf.newBox v.cells.toList t
    rw [e1] at h1 h2
    rw [← hd] at h
    refine ⟨_, _, _, _, h, h1.put o.dst (x := .loc s.loc.length 0) ?_, h2, rfl, ?_⟩
    · simp only [conc]
      rw [← hf.len]
      simp
    · refine Kept.trans (b := { s with loc := s.loc ++ [v.cells.toList] }) ⟨rfl, by simp, fun i cs e _ => ?_⟩ (Kept.put wrt _ _ _)
      have hlt : i < s.loc.length := by
        rcases Nat.lt_or_ge i s.loc.length with k | k
        · exact k
        · rw [List.getElem?_eq_none k] at e; cases e
      show (s.loc ++ [v.cells.toList])[i]? = _
      rw [List.getElem?_append_left hlt]; exact e

theorem s_alloc (hf : Fits s bs u a w) {t : TypeId} (e : o.op = .alloc t) {d : Nat} (hd : o.dst = some d) {cs : List Value} (hz : zeroOf C.P t = some cs)
    (h : match memB C.exp d with
      | true => ∀ b, u b = none → K (s.put (some d) (.ptr ⟨b, 0, none⟩)) (u.ins b (.cells cs.toArray t (0, 0)))
      | false => K ({ s with loc := s.loc ++ [cs] }.put (some d) (.loc s.loc.length 0)) u) : o.wp C.P a w (After wrt K s bs u a w o.dst) Q := by
  obtain ⟨z, hzr, rfl⟩ := zeroOf_spec hz w
  refine s_new hf hd (t := t) (v := z) ?_ h
  unfold execOp; rw [e]
  refine run_v ?_
  simp only [Instr.alloc, Sem.run_bind, hzr, Result.andThen_ok, newVar_run]
  rfl

theorem s_box (hf : Fits s bs u a w) {t : TypeId} {x : Operand} (e : o.op = .box t x) {d : Nat} (hd : o.dst = some d) {v : Value} (hx : s.val x = some v)
    (h : match memB C.exp d with
      | true => ∀ b, u b = none → K (s.put (some d) (.ptr ⟨b, 0, none⟩)) (u.ins b (.cells v.cells.toList.toArray t (0, 0)))
      | false => K ({ s with loc := s.loc ++ [v.cells.toList] }.put (some d) (.loc s.loc.length 0)) u) : o.wp C.P a w (After wrt K s bs u a w o.dst) Q := by
  refine s_new hf hd (t := t) (v := v) ?_ h
  unfold execOp; rw [e]
  refine run_v ?_
  simp only [Instr.box, hf.val hx, Sem.run_bind, newVar_run, Result.andThen_ok]
  rfl

theorem und_run {P : Program} {t : TypeId} {d : TypeDesc} (h : P.underlying t = some d) (w : World) : (underlying t).run P w = .ok d w := by
  simp [underlying, program, Sem.run, h]

theorem s_field {t : TypeId} {x : Operand} {f n : Nat} (e : o.op = .fieldAddr t x f) (hn : offOf C.P t f = some n) {p : Addr} (hx : a.eval x = .pointer (some p)) (w : World) :
    (execOp a.eval o).run C.P w = .ok (.value (.pointer (some (p.add n)))) w := by
  unfold offOf at hn
  split at hn
  · rename_i fs hu
    split at hn
    · rename_i g hg
      split at hn
      · rename_i m hm
        cases hn
        simp only [sizeOfT, Option.map_eq_some_iff] at hm
        obtain ⟨i, hi, hsz⟩ := hm
        unfold execOp; rw [e]
        refine run_v ?_
        simp only [Instr.fieldAt, Sem.run_bind, und_run hu, Result.andThen_ok, hg, hx, Instr.sureAddr, fieldPlace, sizeOf_run hi, hsz]
        simp
      · cases hn
    · cases hn
  · cases hn

theorem s_fieldLoc (hf : FitsE s bs a) {t : TypeId} {x : Operand} {f n : Nat} (e : o.op = .fieldAddr t x f) (hn : offOf C.P t f = some n) {i off : Nat} (hx : s.sv x = some (.loc i off))
    (h : K (s.put o.dst (.loc i (off + n))) u) : PV C s o u K bs a := by
  obtain ⟨b, hb, hev⟩ := conc_loc hf hx
  refine ⟨.loc i (off + n), _, h, ?_, s_field (C := C) e hn hev⟩
  have : (⟨b, off, none⟩ : Addr).add n = ⟨b, off + n, none⟩ := by unfold Addr.add; split <;> simp_all
  simp [conc, hb, this]

theorem s_fieldPtr (hf : FitsE s bs a) {t : TypeId} {x : Operand} {f n : Nat} (e : o.op = .fieldAddr t x f) (hn : offOf C.P t f = some n) {p : Addr} (hx : s.sv x = some (.ptr p))
    (h : K (s.put o.dst (.ptr (p.at' n))) u) : PV C s o u K bs a := by
  rw [at'_add] at h
  exact ⟨.ptr (p.add n), _, h, rfl, s_field (C := C) e hn (conc_ptr hf hx)⟩

theorem size_run {P : Program} {t : TypeId} {n : Nat} (h : sizeOfT P t = some n) (w : World) : (sizeOf t).run P w = .ok n w := by
  simp only [sizeOfT, Option.map_eq_some_iff] at h
  obtain ⟨i, hi, hsz⟩ := h
  rw [sizeOf_run hi, hsz]

theorem s_indexSlice (hf : FitsE s bs a) {t e' : TypeId} {x ix : Operand} (e : o.op = .indexAddr t x ix) (hu : C.P.underlying t = some (.slice e')) {ad : Option Addr} {n c : Nat} (hx : s.sv x = some (.v (.slice ad n c)))
    {k : IntKind} {i : Int} (hi : s.sv ix = some (.v (.int k i))) {sz : Nat} (hsz : sizeOfT C.P e' = some sz)
    (h : ∃ p, ad = some p ∧ (0 ≤ i ∧ i < n) ∧ K (s.put o.dst (.ptr (p.add (i.toNat * sz)))) u) : PV C s o u K bs a := by
  obtain ⟨p, rfl, hb, hK⟩ := h
  refine ⟨.ptr _, .pointer (some (p.add (i.toNat * sz))), hK, rfl, fun w => ?_⟩
  unfold execOp; rw [e]
  refine run_v ?_
  simp only [Instr.indexAt, conc_v hf hx, conc_v hf hi, asIntOf, pure_bind, Sem.run_bind, und_run hu, Result.andThen_ok]
  simp [hb, size_run hsz]

theorem s_indexArr (hf : FitsE s bs a) {t e' : TypeId} {len : Nat} {x ix : Operand} (e : o.op = .indexAddr t x ix) (hu : C.P.underlying t = some (.array len e')) {p : Addr} (hx : a.eval x = .pointer (some p))
    {k : IntKind} {i : Int} (hi : s.sv ix = some (.v (.int k i))) {sz : Nat} (hsz : sizeOfT C.P e' = some sz) (hb : 0 ≤ i ∧ i < len) (w : World) :
    (execOp a.eval o).run C.P w = .ok (.value (.pointer (some (p.add (i.toNat * sz))))) w := by
  unfold execOp; rw [e]
  refine run_v ?_
  simp only [Instr.indexAt, hx, conc_v hf hi, asIntOf, pure_bind, Sem.run_bind, und_run hu, Result.andThen_ok, Instr.sureAddr]
  simp [hb, size_run hsz]

end
end Go.Proofs.YtbohcdjoglidhaaGreatDoor

/- VcStepT -/
namespace Go.Proofs.YtbohcdjoglidhaaGreatDoor

section
variable {C : Cfg} {wrt : Nat → Bool} {s : St} {o : Oper} {u : H} {K : St → H → Prop} {bs : List Nat} {a : Act} {w : World} {Q : Exit → Act → World → Prop}

theorem s_call (hG : Good C) (hf : Fits s bs u a w) {c : Call} (e : o.op = .call c)
    (h : match vals s c.args, shsOf C.P o.type with
    | some vs, some ss => match c.callee with
      | .value (.func f) => match hasBody C.P f with
        | true => ClT C.P f vs.toArray ss u (contC s o.dst ss K)
        | false => match noBody C.P f with
          | true => SemT C.P (callX f vs.toArray) ss u (contC s o.dst ss K)
          | false => False
      | .value x => match s.sv x with
        | some (.v fv) => ClV C.P fv vs.toArray ss u (contC s o.dst ss K)
        | _ => False
      | .invoke x name => match s.sv x with
        | some (.v r) => ClI C.P r name vs.toArray ss u (contC s o.dst ss K)
        | _ => False
      | .builtin _ => other C s o u K
    | _, _ => False) : o.wp C.P a w (After wrt K s bs u a w o.dst) Q := by
  split at h
  · rename_i vs ss hv hss
    have hargs := vals_eval hf.toFitsE hv
    split at h
    · rename_i f hc
      have hx : ∀ W, (execOp a.eval o).run C.P W = (callFunc f vs.toArray).run C.P W := by
        intro W
        unfold execOp; rw [e]
        simp only [resolve, hc, Act.eval, Deferred.ofValue, pure_bind, invoke, hargs]
        simp
      split at h
      · rename_i hb
        refine of_ClT hf h ?_
        rw [hx, callFunc_run hG (hasBody_spec hb)]
      · split at h
        · refine of_SemT hf h fun v w' hr => .inl ?_
          rw [hx]
          simp only [callX, Sem.run_bind] at hr
          cases hz : (callFunc f vs.toArray).run C.P w with
          | halt z w2 => rw [hz] at hr; simp at hr
          | ok z w2 =>
            rw [hz] at hr
            simp only [Result.andThen_ok] at hr
            cases z <;> simp only [] at hr <;> first
              | (have hr2 : Result.ok _ w2 = Result.ok v w' := hr; cases hr2; rfl)
              | (simp [stuck] at hr)
        · exact h.elim
    · rename_i x _ hc
      split at h
      · rename_i fv hx
        obtain ⟨f, pre, cap, rfl, hb, hcl⟩ := h
        refine of_ClT hf hcl ?_
        unfold execOp; rw [e]
        simp only [resolve, hc, conc_v hf.toFitsE hx, Deferred.ofValue, pure_bind, invoke, hargs]
        have := callFunc_run hG hb (pre ++ vs.toArray ++ cap) w
        simpa using this
      · exact h.elim
    · rename_i x name hc
      split at h
      · rename_i r hx
        obtain ⟨t, v, f, rc, rfl, hm, hb, hcl⟩ := h
        refine of_ClT hf hcl ?_
        unfold execOp; rw [e]
        simp only [resolve, hc, conc_v hf.toFitsE hx, pure_bind, invoke, hargs]
        have h0 : (#[Value.iface t v] ++ vs.toArray)[0]? = some (.iface t v) := by simp
        have h1 : (#[Value.iface t v] ++ vs.toArray).extract 1 (#[Value.iface t v] ++ vs.toArray).size = vs.toArray := by
          apply Array.ext'
          simp
        simp only [h0, h1, callMethod, Sem.run_bind, program]
        show (Result.andThen ((method (C.P.types.size + Made.depth) t v name).run C.P w) fun p w' => (callFunc p.1 (#[p.2] ++ vs.toArray)).run C.P w') = _
        rw [hm w hf.sub]
        exact callFunc_run hG hb _ w
      · exact h.elim
    · exact other_sound (fun cs b => by rw [e]; exact Op.noConfusion) hf h
  · exact h.elim

set_option maxHeartbeats 1000000 in
theorem step_sound (hG : Good C) (hf : Fits s bs u a w) (h : stepOp C wrt s o u K) : o.wp C.P a w (After wrt K s bs u a w o.dst) Q := by
  have hoth : (∀ cs b, o.op ≠ .select cs b) → other C s o u K → o.wp C.P a w (After wrt K s bs u a w o.dst) Q := fun hs => other_sound hs hf
  unfold stepOp at h
  split at h
  · rename_i x e; exact of_PV hf (s_move hf.toFitsE (.inl e) h)
  · rename_i x e; exact of_PV hf (s_move hf.toFitsE (.inr e) h)
  · rename_i c x y e
    split at h
    · rename_i hc hx; exact of_PV hf (s_pick hf.toFitsE e (b := true) (Option.some.inj (hf.sv hc)).symm hx h)
    · rename_i hc hy; exact of_PV hf (s_pick hf.toFitsE e (b := false) (Option.some.inj (hf.sv hc)).symm hy h)
    · rename_i p d y' z' hc hx hy
      have hev := (Option.some.inj (hf.sv hc)).symm
      by_cases hp : p
      · exact of_PV hf (s_pick hf.toFitsE e (b := true) (by rw [hev]; simp [hp]) hx (h.1 hp))
      · exact of_PV hf (s_pick hf.toFitsE e (b := false) (by rw [hev]; simp [hp]) hy (h.2 hp))
    · rename_i p d y' z' hc hx hy
      have hev := (Option.some.inj (hf.sv hc)).symm
      by_cases hp : p
      · exact of_PV hf (s_pick hf.toFitsE e (b := false) (by rw [hev]; simp [hp]) hy (h.2 hp))
      · exact of_PV hf (s_pick hf.toFitsE e (b := true) (by rw [hev]; simp [hp]) hx (h.1 hp))
    · exact h.elim
  · rename_i op t x y t' e
    split at h
    · rename_i k m k' n hx hy
      exact of_PV hf (s_binInt hf.toFitsE e hx hy h)
    · rename_i p q _ hx hy
      split at h
      · split at h
        · rename_i z hz; exact of_PV hf (s_eq hG hf.toFitsE e hx hy hz (.inl ⟨rfl, h⟩))
        · exact h.elim
      · split at h
        · rename_i z hz; exact of_PV hf (s_eq hG hf.toFitsE e hx hy hz (.inr ⟨rfl, h⟩))
        · exact h.elim
      · exact hoth (fun cs b => by rw [e]; exact Op.noConfusion) h
    · exact h.elim
  · rename_i t x e
    split at h
    · rename_i hx; exact of_PV hf (s_not hf.toFitsE e (b := true) (Option.some.inj (hf.sv hx)).symm rfl h)
    · rename_i hx; exact of_PV hf (s_not hf.toFitsE e (b := false) (Option.some.inj (hf.sv hx)).symm rfl h)
    · rename_i p d hx; exact of_PV hf (s_not hf.toFitsE e (Option.some.inj (hf.sv hx)).symm rfl h)
    · rename_i p d hx; exact of_PV hf (s_not hf.toFitsE e (Option.some.inj (hf.sv hx)).symm (by simp [conc]) h)
    · rename_i b hx; exact of_PV hf (s_not hf.toFitsE e (Option.some.inj (hf.sv hx)).symm (by cases b <;> simp [conc]) h)
    · exact h.elim
  · rename_i t x e
    split at h
    · rename_i i off sh hx hsh
      split at h
      · rename_i cs hl
        split at h
        · rename_i hb; exact of_LV hf (s_loadLoc hf.toFitsE e hx hsh hl (Nat.le_of_ble_eq_true hb) h)
        · exact h.elim
      · exact h.elim
    · rename_i p sh hx hsh; exact of_LV hf (s_loadPtr hf.toFitsE e hx hsh h)
    · exact h.elim
  · rename_i t x y e
    split at h
    · rename_i i off v sh hx hy hsh
      split at h
      · rename_i cs hl hw hsz h1
        split at h
        · rename_i hb; exact s_storeLoc hf e hx hy hsh hl hw (Nat.eq_of_beq_eq_true hsz) h1 (Nat.le_of_ble_eq_true hb) h
        · exact h.elim
      · exact h.elim
    · rename_i p v sh hx hy hsh
      split at h
      · rename_i hsz; exact s_storePtr hf e hx hy hsh (Nat.eq_of_beq_eq_true hsz) h
      · exact h.elim
    · exact h.elim
  · rename_i t e
    split at h
    · rename_i cs d hz hd; exact s_alloc hf e hd hz h
    · exact h.elim
  · rename_i t x e
    split at h
    · rename_i v d hx hd; exact s_box hf e hd hx h
    · exact h.elim
  · rename_i x e
    split at h
    · rename_i i off hx
      obtain ⟨b, hb, hev⟩ := conc_loc hf.toFitsE hx
      refine of_value hf (y := .loc i off) (v := .pointer (some ⟨b, off, none⟩)) ?_ (by simp [conc, hb]) h
      unfold execOp; rw [e]; simp only [hev]; rfl
    · rename_i p hx
      refine of_value hf (y := .ptr p) (v := .pointer (some p)) ?_ rfl h
      unfold execOp; rw [e]; simp only [conc_ptr hf.toFitsE hx]; rfl
    · rename_i q hx
      obtain ⟨p, rfl, hK⟩ := h
      refine of_value hf (y := .ptr p) (v := .pointer (some p)) ?_ rfl hK
      unfold execOp; rw [e]; simp only [conc_v hf.toFitsE hx]; rfl
    · exact h.elim
  · rename_i t x f e
    split at h
    · rename_i i off n hx hn; exact of_PV hf (s_fieldLoc hf.toFitsE e hn hx h)
    · rename_i p n hx hn; exact of_PV hf (s_fieldPtr hf.toFitsE e hn hx h)
    · exact h.elim
  · rename_i t x ix e
    split at h
    · rename_i e' hu
      split at h
      · rename_i ad n c k i sz hx hi hsz; exact of_PV hf (s_indexSlice hf.toFitsE e hu hx hi hsz h)
      · exact h.elim
    · rename_i len e' hu
      split at h
      · rename_i j off k m sz hx hi hsz
        split at h
        · rename_i hm
          obtain ⟨b, hb, hev⟩ := conc_loc hf.toFitsE hx
          have hlt : m < len := by simpa using hm
          have hr := s_indexArr (C := C) hf.toFitsE e hu hev hi hsz ⟨by simp, by simpa using hlt⟩ w
          refine of_value hf (y := .loc j (off + m * (sz + 1))) hr ?_ h
          have : (⟨b, off, none⟩ : Addr).add (m * (sz + 1)) = ⟨b, off + m * (sz + 1), none⟩ := by unfold Addr.add; split <;> simp_all
          simp [conc, hb, this]
        · exact h.elim
      · rename_i p k i sz hx hi hsz
        obtain ⟨h2, hb, hK⟩ := h
        exact of_value hf (y := .ptr _) (s_indexArr (C := C) hf.toFitsE e hu (conc_ptr hf.toFitsE hx) hi hsz hb w) rfl hK
      · exact h.elim
    · exact h.elim
  · rename_i c e; exact s_call hG hf e h
  · rename_i hnot
    by_cases hsel : ∃ cs b, o.op = .select cs b
    · obtain ⟨cs, b, e⟩ := hsel
      exfalso
      unfold other plainVal at h
      have h0 : mapLen C.P o.op = false := by rw [e]; rfl
      have h1 : notSelect o.op = false := by rw [e]; rfl
      have h2 : semOf s o = none := by unfold semOf; rw [e]
      rw [h0, h1, h2] at h
      split at h
      · rename_i h3; split at h3 <;> simp_all
      · split at h <;> simp_all
    · exact hoth (fun cs b e => hsel ⟨cs, b, e⟩) h

end
end Go.Proofs.YtbohcdjoglidhaaGreatDoor

/- VcDraw -/
namespace Go.Proofs.YtbohcdjoglidhaaGreatDoor

/-! ### guards -/

/-- Is an operation wanted? Where that is not known both ways are gone, the slot told. -/
def guardW (s : St) (all : Array Oper) (o : Oper) (f : St → Bool → Prop) : Prop :=
  match o.guard with
  | none => f s true
  | some (j, want) => match all[j]? with
    | some oj => match oj.dst with
      | some d => match look s.env d with
        | some .tt => f s want
        | some .ff => f s (!want)
        | some (.dec p _) => (p → f (s.put (some d) .tt) want) ∧ (¬ p → f (s.put (some d) .ff) (!want))
        | some (.ndec p _) => (¬ p → f (s.put (some d) .tt) want) ∧ (p → f (s.put (some d) .ff) (!want))
        | some (.v (.bool b)) => (b = true → f (s.put (some d) .tt) want) ∧ (b = false → f (s.put (some d) .ff) (!want))
        | some (.v (.tuple _)) => f s false
        | _ => False
      | none => False
    | none => False

theorem FitsE.tell {s : St} {bs : List Nat} {a : Act} (h : FitsE s bs a) {d : Nat} {x : SV} {v : Value} (hc : conc bs x = some v) (ht : a.tmps[d]? = some v) : FitsE (s.put (some d) x) bs a := by
  have hlt : d < s.n := by
    rw [← h.n]
    rcases Nat.lt_or_ge d a.tmps.size with k | k
    · exact k
    · rw [Array.getElem?_eq_none k] at ht; cases ht
  have e1 : s.put (some d) x = { s with env := (d, x) :: del s.env d } := by
    have hb : Nat.blt d s.n = true := by simpa using hlt
    simp only [St.put, hb]
  rw [e1]
  refine ⟨h.defers, h.n, ?_⟩
  intro p hp
  cases hp with
  | head => exact ⟨v, hc, ht⟩
  | tail _ hp => exact h.env p (del_mem hp).1

/-- s' knows of some slots more than s. -/
structure Told (s s' : St) (bs : List Nat) (a : Act) : Prop where
  e : FitsE s' bs a
  loc : s'.loc = s.loc
  n : s'.n = s.n

theorem guardW_spec {s : St} {all : Array Oper} {o : Oper} {f : St → Bool → Prop} (h : guardW s all o f) {bs : List Nat} {a : Act} (hf : FitsE s bs a) :
    ∃ s' want, f s' want ∧ Told s s' bs a ∧ Region.wanted o (yielded all a.tmps) = want := by
  unfold guardW at h
  split at h
  · rename_i e
    exact ⟨s, true, h, ⟨hf, rfl, rfl⟩, by simp [Region.wanted, e]⟩
  · rename_i j want e
    split at h
    · rename_i oj hj
      split at h
      · rename_i d hd
        have key : ∀ x, look s.env d = some x → ∀ b : Bool, conc bs x = some (.bool b) → a.tmps[d]? = some (.bool b) ∧ Region.wanted o (yielded all a.tmps) = (if b then want else !want) := by
          intro x hx b hb
          obtain ⟨v, h1, h2⟩ := hf.env _ (look_mem hx)
          simp only at h1 h2
          rw [hb] at h1; cases h1
          refine ⟨h2, ?_⟩
          simp only [Region.wanted, e, yielded, hj, Option.bind_some, hd, h2]
          cases b <;> cases want <;> rfl
        split at h
        · rename_i hl
          exact ⟨s, want, h, ⟨hf, rfl, rfl⟩, (key _ hl true rfl).2⟩
        · rename_i hl
          exact ⟨s, !want, h, ⟨hf, rfl, rfl⟩, (key _ hl false rfl).2⟩
        · rename_i p dp hl
          by_cases hp : p
          · have := key _ hl true (by simp [conc, hp])
            exact ⟨_, want, h.1 hp, ⟨hf.tell (x := .tt) rfl this.1, (put_loc _ _ _).1, (put_loc _ _ _).2⟩, this.2⟩
          · have := key _ hl false (by simp [conc, hp])
            exact ⟨_, !want, h.2 hp, ⟨hf.tell (x := .ff) rfl this.1, (put_loc _ _ _).1, (put_loc _ _ _).2⟩, this.2⟩
        · rename_i p dp hl
          by_cases hp : p
          · have := key _ hl false (by simp [conc, hp])
            exact ⟨_, !want, h.2 hp, ⟨hf.tell (x := .ff) rfl this.1, (put_loc _ _ _).1, (put_loc _ _ _).2⟩, this.2⟩
          · have := key _ hl true (by simp [conc, hp])
            exact ⟨_, want, h.1 hp, ⟨hf.tell (x := .tt) rfl this.1, (put_loc _ _ _).1, (put_loc _ _ _).2⟩, this.2⟩
        · rename_i b hl
          cases b with
          | true =>
            have := key _ hl true rfl
            exact ⟨_, want, h.1 rfl, ⟨hf.tell (x := .tt) rfl this.1, (put_loc _ _ _).1, (put_loc _ _ _).2⟩, this.2⟩
          | false =>
            have := key _ hl false rfl
            exact ⟨_, !want, h.2 rfl, ⟨hf.tell (x := .ff) rfl this.1, (put_loc _ _ _).1, (put_loc _ _ _).2⟩, this.2⟩
        · rename_i vs hl
          obtain ⟨v, h1, h2⟩ := hf.env _ (look_mem hl)
          simp only at h1 h2
          simp only [conc, Option.some.injEq] at h1
          subst h1
          refine ⟨s, false, h, ⟨hf, rfl, rfl⟩, ?_⟩
          simp only [Region.wanted, e, yielded, hj, Option.bind_some, hd, h2]
          rfl
        · exact h.elim
      · exact h.elim
    · exact h.elim

/-! ### what hangs on the slots alone -/

def isPureAt (C : Cfg) (s : St) (o : Oper) : Bool :=
  match o.op with
  | .move _ => true
  | .assign _ => true
  | .pick _ _ _ => true
  | .nilCheck _ => true
  | .fieldAddr _ _ _ => true
  | .indexAddr _ _ _ => true
  | .unOp .not _ _ => true
  | .binOp _ _ _ _ _ => true
  | .load _ _ => false
  | .store _ _ _ => false
  | .alloc _ => false
  | .box _ _ => false
  | .call c => match c.callee with
    | .builtin _ => (plainVal C.P s o).isSome
    | _ => false
  | _ => (plainVal C.P s o).isSome

section
variable {C : Cfg} {wrt : Nat → Bool} {s : St} {o : Oper} {u : H} {K : St → H → Prop} {bs : List Nat} {a : Act} {w : World} {Q : Exit → Act → World → Prop}

theorem other_pure (hf : FitsE s bs a) (hp : (plainVal C.P s o).isSome = true) (h : other C s o u K) : PV C s o u K bs a := by
  unfold other at h
  obtain ⟨v, hv⟩ := Option.isSome_iff_exists.1 hp
  rw [hv] at h
  exact ⟨.v v, v, h, rfl, plainVal_run hf hv⟩

set_option maxHeartbeats 1000000 in
theorem pure_sound (hG : Good C) (hf : FitsE s bs a) (hp : isPureAt C s o = true) (h : stepOp C wrt s o u K) : PV C s o u K bs a := by
  unfold stepOp at h
  split at h
  · rename_i x e; exact s_move hf (.inl e) h
  · rename_i x e; exact s_move hf (.inr e) h
  · rename_i c x y e
    split at h
    · rename_i hc hx; exact s_pick hf e (b := true) (Option.some.inj (hf.sv hc)).symm hx h
    · rename_i hc hy; exact s_pick hf e (b := false) (Option.some.inj (hf.sv hc)).symm hy h
    · rename_i p d y' z' hc hx hy
      have hev := (Option.some.inj (hf.sv hc)).symm
      by_cases hp : p
      · exact s_pick hf e (b := true) (by rw [hev]; simp [hp]) hx (h.1 hp)
      · exact s_pick hf e (b := false) (by rw [hev]; simp [hp]) hy (h.2 hp)
    · rename_i p d y' z' hc hx hy
      have hev := (Option.some.inj (hf.sv hc)).symm
      by_cases hp : p
      · exact s_pick hf e (b := false) (by rw [hev]; simp [hp]) hy (h.2 hp)
      · exact s_pick hf e (b := true) (by rw [hev]; simp [hp]) hx (h.1 hp)
    · exact h.elim
  · rename_i op t x y t' e
    have hno : ∀ hh : other C s o u K, PV C s o u K bs a := by
      intro hh
      by_cases hpv : (plainVal C.P s o).isSome = true
      · exact other_pure hf hpv hh
      · exfalso
        have hn : plainVal C.P s o = none := by
          cases hx : plainVal C.P s o with
          | none => rfl
          | some v => rw [hx] at hpv; simp at hpv
        unfold other at hh
        rw [hn] at hh
        have h2 : semOf s o = none := by unfold semOf; rw [e]
        rw [h2] at hh
        split at hh <;> simp_all
    split at h
    · rename_i k m k' n hx hy
      exact s_binInt hf e hx hy h
    · rename_i p q _ hx hy
      split at h
      · split at h
        · rename_i z hz; exact s_eq hG hf e hx hy hz (.inl ⟨rfl, h⟩)
        · exact h.elim
      · split at h
        · rename_i z hz; exact s_eq hG hf e hx hy hz (.inr ⟨rfl, h⟩)
        · exact h.elim
      · exact hno h
    · exact h.elim
  · rename_i t x e
    split at h
    · rename_i hx; exact s_not hf e (b := true) (Option.some.inj (hf.sv hx)).symm rfl h
    · rename_i hx; exact s_not hf e (b := false) (Option.some.inj (hf.sv hx)).symm rfl h
    · rename_i p d hx; exact s_not hf e (Option.some.inj (hf.sv hx)).symm rfl h
    · rename_i p d hx; exact s_not hf e (Option.some.inj (hf.sv hx)).symm (by simp [conc]) h
    · rename_i b hx; exact s_not hf e (Option.some.inj (hf.sv hx)).symm (by cases b <;> simp [conc]) h
    · exact h.elim
  · rename_i t x e; unfold isPureAt at hp; rw [e] at hp; cases hp
  · rename_i t x y e; unfold isPureAt at hp; rw [e] at hp; cases hp
  · rename_i t e; unfold isPureAt at hp; rw [e] at hp; cases hp
  · rename_i t x e; unfold isPureAt at hp; rw [e] at hp; cases hp
  · rename_i x e
    split at h
    · rename_i i off hx
      obtain ⟨b, hb, hev⟩ := conc_loc hf hx
      refine ⟨.loc i off, .pointer (some ⟨b, off, none⟩), h, by simp [conc, hb], fun w => ?_⟩
      unfold execOp; rw [e]; simp only [hev]; rfl
    · rename_i p hx
      refine ⟨.ptr p, .pointer (some p), h, rfl, fun w => ?_⟩
      unfold execOp; rw [e]; simp only [conc_ptr hf hx]; rfl
    · rename_i q hx
      obtain ⟨p, rfl, hK⟩ := h
      refine ⟨.ptr p, .pointer (some p), hK, rfl, fun w => ?_⟩
      unfold execOp; rw [e]; simp only [conc_v hf hx]; rfl
    · exact h.elim
  · rename_i t x f e
    split at h
    · rename_i i off n hx hn; exact s_fieldLoc hf e hn hx h
    · rename_i p n hx hn; exact s_fieldPtr hf e hn hx h
    · exact h.elim
  · rename_i t x ix e
    split at h
    · rename_i e' hu
      split at h
      · rename_i ad n c k i sz hx hi hsz; exact s_indexSlice hf e hu hx hi hsz h
      · exact h.elim
    · rename_i len e' hu
      split at h
      · rename_i j off k m sz hx hi hsz
        split at h
        · rename_i hm
          obtain ⟨b, hb, hev⟩ := conc_loc hf hx
          have hlt : m < len := by simpa using hm
          have hr := s_indexArr (C := C) hf e hu hev hi hsz ⟨by simp, by simpa using hlt⟩
          refine ⟨.loc j (off + m * (sz + 1)), _, h, ?_, hr⟩
          have : (⟨b, off, none⟩ : Addr).add (m * (sz + 1)) = ⟨b, off + m * (sz + 1), none⟩ := by unfold Addr.add; split <;> simp_all
          simp [conc, hb, this]
        · exact h.elim
      · rename_i p k i sz hx hi hsz
        obtain ⟨h2, hb, hK⟩ := h
        exact ⟨.ptr _, _, hK, rfl, s_indexArr (C := C) hf e hu (conc_ptr hf hx) hi hsz hb⟩
      · exact h.elim
    · exact h.elim
  · rename_i c e
    unfold isPureAt at hp; rw [e] at hp; simp only at hp
    split at hp
    · rename_i b hc
      rw [hc] at h
      split at h
      · exact other_pure hf hp h
      · exact h.elim
    · cases hp
  · rename_i h1 h2 h3 h4 h5 h6 h7 h8 h9 h10 h11 h12 h13
    refine other_pure hf ?_ h
    unfold isPureAt at hp
    split at hp <;> first | exact hp | (rename_i e; exact absurd e (by first | exact h1 _ | exact h2 _ | exact h3 _ _ _ | exact h4 _ _ _ _ _ | exact h5 _ _ | exact h6 _ _ | exact h7 _ _ _ | exact h8 _ | exact h9 _ _ | exact h10 _ | exact h11 _ _ _ | exact h12 _ _ _ | exact h13 _))

end
end Go.Proofs.YtbohcdjoglidhaaGreatDoor

/- VcAny -/
namespace Go.Proofs.YtbohcdjoglidhaaGreatDoor

/-- Does operation j wait for i, through others too? -/
def waits (ops : Array Oper) : Nat → Nat → Nat → Bool
  | 0, _, _ => false
  | n + 1, j, i => match ops[j]? with
    | some o => o.after.toList.any fun e => Region.binds .any e && (Nat.beq e.on i || waits ops n e.on i)
    | none => false

/-- Whatever has come up, all that it waited for had come up before. -/
def Closed (ops : Array Oper) (listed : Array Bool) : Prop :=
  ∀ j o, ops[j]? = some o → listed.getD j false = true → ∀ e ∈ o.after, Region.binds .any e = true → listed.getD e.on false = true

theorem waits_listed {ops : Array Oper} {listed : Array Bool} (hc : Closed ops listed) : ∀ (n j i : Nat), waits ops n j i = true →
    (∀ o, ops[j]? = some o → ∀ e ∈ o.after, Region.binds .any e = true → listed.getD e.on false = true) → listed.getD i false = true := by
  intro n
  induction n with
  | zero => intro j i h; simp [waits] at h
  | succ n ih =>
    intro j i h hj
    simp only [waits] at h
    split at h
    · rename_i o ho
      obtain ⟨e, he, hb⟩ := List.any_eq_true.1 h
      simp only [Bool.and_eq_true, Bool.or_eq_true] at hb
      have hm : e ∈ o.after := Array.mem_toList_iff.1 he
      have h1 := hj o ho e hm hb.1
      rcases hb.2 with h2 | h2
      · have := Nat.eq_of_beq_eq_true h2; subst this; exact h1
      · exact ih e.on i h2 fun o' ho' e' he' hb' => hc e.on o' ho' h1 e' he' hb'
    · cases h

theorem Closed.set {ops : Array Oper} {listed : Array Bool} (hc : Closed ops listed) {i : Nat} (hr : i ∈ Region.ready .any ops listed) : Closed ops (listed.setIfInBounds i true) := by
  intro j o ho hj e he hb
  by_cases hji : j = i
  · subst hji
    obtain ⟨_, o', ho', hall⟩ := mem_ready.1 hr
    rw [ho] at ho'; cases ho'
    exact getD_set_true (hall e he hb)
  · rw [getD_set_ne false (Ne.symm hji)] at hj
    exact getD_set_true (hc j o ho hj e he hb)

section
variable {P : Program} {ops : Array Oper} {Q : Exit → Act → World → Prop} {nd : Nat → Bool} {S : World → Prop}

/-- Whatever order is picked from here on; and an operation that may come up ahead of a read leaves S as it is. -/
def wpAnyG (P : Program) (ops : Array Oper) (Q : Exit → Act → World → Prop) (nd : Nat → Bool) (S : World → Prop) : Nat → Array Bool → Act → World → Prop
  | 0, listed, a, w => Region.ready .any ops listed = [] ∧ Q .normal a w
  | fuel + 1, listed, a, w =>
    (Region.ready .any ops listed = [] → Q .normal a w) ∧
    ∀ i ∈ Region.ready .any ops listed, wpOp P ops Q i (fun a' w' => (nd i = true → S w → S w') ∧ wpAnyG P ops Q nd S fuel (listed.setIfInBounds i true) a' w') a w

theorem wpAny_of_G : ∀ (fuel : Nat) (listed : Array Bool) (a : Act) (w : World), wpAnyG P ops Q nd S fuel listed a w → wpAny P .any ops Q fuel listed a w
  | 0, _, _, _, h => h
  | fuel + 1, _, _, _, h => ⟨h.1, fun i hi => wpOp_mono (fun a' w' h' => wpAny_of_G fuel _ a' w' h'.2) (h.2 i hi)⟩

/-- It yields its value in every world of S (or in every world at all), and no other operation that may come up ahead of it leaves S. -/
theorem anyG_first {i : Nat} {oi : Oper} {v : Value} {T : World → Prop} (hi : ops[i]? = some oi) (hsel : ∀ (j : Nat) (o : Oper) cs b, ops[j]? = some o → o.op ≠ .select cs b)
    (hQ : ∀ c a w, ¬ Q (.panic c) a w) (N : Nat) (hT : (∀ w, T w) ∨ (T = S ∧ ∀ j, nd j = false → j = i ∨ waits ops N j i = true)) :
    ∀ (fuel : Nat) (listed : Array Bool) (a : Act) (w : World), Closed ops listed →
      (∀ j oj, ops[j]? = some oj → j ≠ i → listed.getD j true = false → (∀ e ∈ oj.after, Region.binds .any e = true → e.on ≠ i) → oi.apart ops oj = true) →
      i ∈ Region.ready .any ops listed → YieldsIf P ops T oi v a → T w →
      wpAnyG P ops Q nd S fuel (listed.setIfInBounds i true) (a.put oi.dst v) w → wpAnyG P ops Q nd S (fuel + 1) listed a w := by
  intro fuel
  induction fuel with
  | zero =>
    intro listed a w _ _ hr hy hS H
    refine ⟨fun h => (by rw [h] at hr; cases hr), fun j hj => ?_⟩
    by_cases hji : j = i
    · subst hji; exact hy.wpOp hi hS ⟨fun _ h => h, H⟩
    · have := ready_mono hj hji
      rw [H.1] at this
      cases this
  | succ fuel ih =>
    intro listed a w hc hfree hr hy hS H
    refine ⟨fun h => (by rw [h] at hr; cases hr), fun j hj => ?_⟩
    by_cases hji : j = i
    · subst hji; exact hy.wpOp hi hS ⟨fun _ h => h, H⟩
    · have h1 := H.2 j (ready_mono hj hji)
      obtain ⟨hjun, oj, hoj, hall⟩ := mem_ready.1 hj
      have hiun := (mem_ready.1 hr).1
      have hilf : listed.getD i false = false := by
        rcases Nat.lt_or_ge i listed.size with h' | h'
        · simp [h'] at hiun ⊢; exact hiun
        · simp [Array.getElem?_eq_none h'] at hiun
      have hnot : ∀ e ∈ oj.after, Region.binds .any e = true → e.on ≠ i := fun e he hb heq => by
        have h1 := hall e he hb
        rw [heq, hilf] at h1
        cases h1
      have h2 := wpOp_putIf hoj (hfree j oj hoj hji hjun hnot) (fun cs b => hsel i oi cs b hi) (fun cs b => hsel j oj cs b hoj) (fun c a w h => absurd h (hQ c _ w)) hy h1
      have hfree' : ∀ k ok, ops[k]? = some ok → k ≠ i → (listed.setIfInBounds j true).getD k true = false →
          (∀ e ∈ ok.after, Region.binds .any e = true → e.on ≠ i) → oi.apart ops ok = true := fun k ok hk hki hun hno => by
        refine hfree k ok hk hki ?_ hno
        by_cases hjk : j = k
        · subst hjk; exact hjun
        · rw [getD_set_ne true hjk] at hun; exact hun
      have hnd : (∀ w, T w) ∨ (T = S ∧ nd j = true) := by
        rcases hT with hT | ⟨hTS, hT⟩
        · exact .inl hT
        · refine .inr ⟨hTS, ?_⟩
          cases hn : nd j with
          | true => rfl
          | false =>
            rcases hT j hn with h' | h'
            · exact absurd h' hji
            · have := waits_listed hc N j i h' (fun o ho e he hb => by rw [hoj] at ho; cases ho; exact hall e he hb)
              rw [hilf] at this; cases this
      refine wpOp_mono (fun a' w' h3 => ⟨h3.2.1, ?_⟩) h2
      have hTw : T w' := by
        rcases hnd with h' | ⟨rfl, h'⟩
        · exact h' w'
        · exact h3.2.1 h' hS
      refine ih (listed.setIfInBounds j true) a' w' (hc.set hj) hfree' (ready_mono hr (Ne.symm hji)) h3.1 hTw ?_
      rw [Array.setIfInBounds_comm _ _ hji]
      exact h3.2.2

end

section
variable {P : Program} {ops : Array Oper} {Q : Exit → Act → World → Prop} {R : Nat → World → World → Prop}

/-- Whatever order is picked from here on; and operation i's step is as R i says. -/
def wpAnyR (P : Program) (ops : Array Oper) (Q : Exit → Act → World → Prop) (R : Nat → World → World → Prop) : Nat → Array Bool → Act → World → Prop
  | 0, listed, a, w => Region.ready .any ops listed = [] ∧ Q .normal a w
  | fuel + 1, listed, a, w =>
    (Region.ready .any ops listed = [] → Q .normal a w) ∧
    ∀ i ∈ Region.ready .any ops listed, wpOp P ops Q i (fun a' w' => R i w w' ∧ wpAnyR P ops Q R fuel (listed.setIfInBounds i true) a' w') a w

theorem wpAny_of_R : ∀ (fuel : Nat) (listed : Array Bool) (a : Act) (w : World), wpAnyR P ops Q R fuel listed a w → wpAny P .any ops Q fuel listed a w
  | 0, _, _, _, h => h
  | fuel + 1, _, _, _, h => ⟨h.1, fun i hi => wpOp_mono (fun a' w' h' => wpAny_of_R fuel _ a' w' h'.2) (h.2 i hi)⟩

/-- It yields its value in every world of T, and no other operation that may come up ahead of it leaves T. -/
theorem anyR_first {i : Nat} {oi : Oper} {v : Value} {T : World → Prop} (hi : ops[i]? = some oi) (hsel : ∀ (j : Nat) (o : Oper) cs b, ops[j]? = some o → o.op ≠ .select cs b)
    (hQ : ∀ c a w, ¬ Q (.panic c) a w) (N : Nat) (hR : ∀ w, R i w w) (hT : ∀ j, j = i ∨ waits ops N j i = true ∨ ∀ w w', R j w w' → T w → T w') :
    ∀ (fuel : Nat) (listed : Array Bool) (a : Act) (w : World), Closed ops listed →
      (∀ j oj, ops[j]? = some oj → j ≠ i → listed.getD j true = false → (∀ e ∈ oj.after, Region.binds .any e = true → e.on ≠ i) → oi.apart ops oj = true) →
      i ∈ Region.ready .any ops listed → YieldsIf P ops T oi v a → T w →
      wpAnyR P ops Q R fuel (listed.setIfInBounds i true) (a.put oi.dst v) w → wpAnyR P ops Q R (fuel + 1) listed a w := by
  intro fuel
  induction fuel with
  | zero =>
    intro listed a w _ _ hr hy hS H
    refine ⟨fun h => (by rw [h] at hr; cases hr), fun j hj => ?_⟩
    by_cases hji : j = i
    · subst hji; exact hy.wpOp hi hS ⟨hR _, H⟩
    · have := ready_mono hj hji
      rw [H.1] at this
      cases this
  | succ fuel ih =>
    intro listed a w hc hfree hr hy hS H
    refine ⟨fun h => (by rw [h] at hr; cases hr), fun j hj => ?_⟩
    by_cases hji : j = i
    · subst hji; exact hy.wpOp hi hS ⟨hR _, H⟩
    · have h1 := H.2 j (ready_mono hj hji)
      obtain ⟨hjun, oj, hoj, hall⟩ := mem_ready.1 hj
      have hiun := (mem_ready.1 hr).1
      have hilf : listed.getD i false = false := by
        rcases Nat.lt_or_ge i listed.size with h' | h'
        · simp [h'] at hiun ⊢; exact hiun
        · simp [Array.getElem?_eq_none h'] at hiun
      have hnot : ∀ e ∈ oj.after, Region.binds .any e = true → e.on ≠ i := fun e he hb heq => by
        have h1 := hall e he hb
        rw [heq, hilf] at h1
        cases h1
      have h2 := wpOp_putIf hoj (hfree j oj hoj hji hjun hnot) (fun cs b => hsel i oi cs b hi) (fun cs b => hsel j oj cs b hoj) (fun c a w h => absurd h (hQ c _ w)) hy h1
      have hfree' : ∀ k ok, ops[k]? = some ok → k ≠ i → (listed.setIfInBounds j true).getD k true = false →
          (∀ e ∈ ok.after, Region.binds .any e = true → e.on ≠ i) → oi.apart ops ok = true := fun k ok hk hki hun hno => by
        refine hfree k ok hk hki ?_ hno
        by_cases hjk : j = k
        · subst hjk; exact hjun
        · rw [getD_set_ne true hjk] at hun; exact hun
      have hTj : ∀ w w', R j w w' → T w → T w' := by
        rcases hT j with h' | h' | h'
        · exact absurd h' hji
        · have := waits_listed hc N j i h' (fun o ho e he hb => by rw [hoj] at ho; cases ho; exact hall e he hb)
          rw [hilf] at this; cases this
        · exact h'
      refine wpOp_mono (fun a' w' h3 => ⟨h3.2.1, ?_⟩) h2
      have hTw : T w' := hTj _ _ h3.2.1 hS
      refine ih (listed.setIfInBounds j true) a' w' (hc.set hj) hfree' (ready_mono hr (Ne.symm hji)) h3.1 hTw ?_
      rw [Array.setIfInBounds_comm _ _ hji]
      exact h3.2.2

end

/-! ### the formula of a region whose order is open -/

def allI : List Nat → (Nat → Prop) → Prop
  | [], _ => True
  | [i], f => f i
  | i :: is, f => f i ∧ allI is f

theorem allI_spec {l : List Nat} {f : Nat → Prop} (h : allI l f) : ∀ i ∈ l, f i := by
  induction l with
  | nil => intro i hi; cases hi
  | cons x l ih =>
    cases l with
    | nil => intro i hi; simp only [List.mem_singleton] at hi; subst hi; exact h
    | cons y l =>
      intro i hi
      cases hi with
      | head => exact h.1
      | tail _ hi => exact ih h.2 i hi

def isLoad (ops : Array Oper) (i : Nat) : Bool :=
  match ops[i]? with
  | some o => match o.op with
    | .load _ _ => true
    | _ => false
  | none => false

/-- Operations that wait for none that makes or writes memory, or calls. -/
def synPure (o : Oper) : Bool :=
  match o.op with
  | .alloc _ | .box _ _ | .buildSlice .. | .store .. | .mapUpdate .. | .insert .. | .makeMap .. | .makeSlice .. | .lookup .. | .next .. | .range .. | .entry .. | .entryStore .. | .mapEntry .. => false
  | .call c => match c.callee with
    | .builtin .len | .builtin .cap | .builtin .min | .builtin .max => true
    | _ => false
  | _ => true

def early (ops : Array Oper) (r : Nat) : Bool :=
  isLoad ops r && (List.range ops.size).all fun j => match ops[j]? with
    | some o => synPure o || !waits ops ops.size r j
    | none => true

/-- May operation i come up ahead of a read that is taken first? -/
def ndOf (ops : Array Oper) (i : Nat) : Bool :=
  (List.range ops.size).any fun r => early ops r && !(Nat.beq r i) && !waits ops ops.size i r

def noWrite (_ : Nat) : Bool := false

/-- Operation i is carried out. -/
def execW (C : Cfg) (wrt : Nat → Bool) (ops : Array Oper) (s : St) (i : Nat) (u : H) (K : St → H → Prop) : Prop :=
  match ops[i]? with
  | none => False
  | some o => guardW s ops o fun s' want => match want with
    | true => stepOp C wrt s' o u K
    | false => K (s'.put o.dst (.v undef)) u

/-- The same for one that hangs on the slots alone. -/
def execP (C : Cfg) (wrt : Nat → Bool) (ops : Array Oper) (s : St) (i : Nat) (u : H) (K : St → H → Prop) : Prop :=
  match ops[i]? with
  | none => False
  | some o => guardW s ops o fun s' want => match want with
    | true => match isPureAt C s' o with
      | true => stepOp C wrt s' o u K
      | false => False
    | false => K (s'.put o.dst (.v undef)) u

def pureIx (C : Cfg) (ops : Array Oper) (s : St) (i : Nat) : Bool :=
  match ops[i]? with
  | none => false
  | some o => isPureAt C s o

def drawW (C : Cfg) (wrt : Nat → Bool) (ops : Array Oper) (u0 : H) : Nat → Array Bool → Bool → St → H → (St → H → Prop) → Prop
  | 0, _, _, _, _, _ => False
  | fuel + 1, listed, flag, s, u, K =>
    match (Region.ready .any ops listed).find? (fun i => pureIx C ops s i && Region.free .any ops listed i) with
    | some i => execP C wrt ops s i u fun s' u' => drawW C wrt ops u0 fuel (listed.setIfInBounds i true) flag s' u' K
    | none => match flag, (Region.ready .any ops listed).find? (fun i => early ops i && Region.free .any ops listed i) with
      | true, some i => execW C wrt ops s i u0 fun s' _ => drawW C wrt ops u0 fuel (listed.setIfInBounds i true) true s' u K
      | _, _ => match Region.ready .any ops listed with
        | [] => K s u
        | r => allI r fun i => match ndOf ops i with
          | true => execW C noWrite ops s i u fun s' u' => u0.le u' ∧ drawW C wrt ops u0 fuel (listed.setIfInBounds i true) false s' u' K
          | false => execW C wrt ops s i u fun s' u' => drawW C wrt ops u0 fuel (listed.setIfInBounds i true) false s' u' K

/-- A read that all wait for that may turn memory. -/
def safeR (ops : Array Oper) (r : Nat) : Bool :=
  early ops r && (List.range ops.size).all fun j => Nat.beq j r || waits ops ops.size j r || match ops[j]? with
    | some o => synPure o
    | none => true

/-- May operation i come up ahead of a read that is not so? -/
def nd1Of (ops : Array Oper) (i : Nat) : Bool :=
  (List.range ops.size).any fun r => early ops r && !safeR ops r && !(Nat.beq r i) && !waits ops ops.size i r
/-- ahead of one that is? -/
def nd2Of (ops : Array Oper) (i : Nat) : Bool :=
  (List.range ops.size).any fun r => safeR ops r && !(Nat.beq r i) && !waits ops ops.size i r

def impB (b : Bool) (p q : Prop) : Prop := match b with
  | true => p ∧ q
  | false => q

/-- A region whose order is open, by a part of what is known: v0. -/
def drawP (C : Cfg) (wrt : Nat → Bool) (ops : Array Oper) (v0 u0 : H) : Nat → Array Bool → Bool → St → H → (St → H → Prop) → Prop
  | 0, _, _, _, _, _ => False
  | fuel + 1, listed, flag, s, u, K =>
    match (Region.ready .any ops listed).find? (fun i => pureIx C ops s i && Region.free .any ops listed i) with
    | some i => execP C wrt ops s i u fun s' u' => drawP C wrt ops v0 u0 fuel (listed.setIfInBounds i true) flag s' u' K
    | none => match flag, (Region.ready .any ops listed).find? (fun i => early ops i && Region.free .any ops listed i) with
      | true, some i => match safeR ops i with
        | true => execW C wrt ops s i u0 fun s' _ => drawP C wrt ops v0 u0 fuel (listed.setIfInBounds i true) true s' u K
        | false => execW C wrt ops s i v0 fun s' _ => drawP C wrt ops v0 u0 fuel (listed.setIfInBounds i true) true s' u K
      | _, _ => match Region.ready .any ops listed with
        | [] => K s u
        | r => allI r fun i => match nd1Of ops i || nd2Of ops i with
          | true => execW C noWrite ops s i u fun s' u' => impB (nd1Of ops i) (v0.le u') (impB (nd2Of ops i) (u0.le u') (drawP C wrt ops v0 u0 fuel (listed.setIfInBounds i true) false s' u' K))
          | false => execW C wrt ops s i u fun s' u' => drawP C wrt ops v0 u0 fuel (listed.setIfInBounds i true) false s' u' K

theorem impB_1 {b : Bool} {p q : Prop} (h : impB b p q) (hb : b = true) : p := by subst hb; exact h.1
theorem impB_2 {b : Bool} {p q : Prop} (h : impB b p q) : q := by cases b with
  | true => exact h.2
  | false => exact h

end Go.Proofs.YtbohcdjoglidhaaGreatDoor
