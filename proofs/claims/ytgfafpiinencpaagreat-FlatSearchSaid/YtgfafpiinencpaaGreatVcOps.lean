/- Symbolic slots, and one operation's weakest precondition over them; that it is sound. -/
import Derived.Test.YtgfafpiinencpaaGreatVcCore
import Derived.Orders
namespace Go.Proofs.YtgfafpiinencpaaGreat

/-- What a slot holds. -/
inductive SV where
  | v (x : Value)
  | ptr (p : Addr)
  | loc (i off : Nat)
  | tt
  | ff
  | dec (p : Prop) (d : Decidable p)
  | ndec (p : Prop) (d : Decidable p)

structure St where
  n : Nat
  env : List (Nat × SV)
  loc : List (List Value)
  dfs : Option Nat := none

/-- The activation's deferred calls: none, or the mark of a range over a function. -/
def dfsOf : Option Nat → List Deferred
  | none => []
  | some D => [{ target := .collected D, args := #[] }]

structure Cfg where
  P : Program
  exp : List Nat := []
  wrap : Bool := false
  eqT : List (Nat × Nat) := []

def conc (bs : List Nat) : SV → Option Value
  | .v x => some x
  | .ptr p => some (.pointer (some p))
  | .loc i off => match bs[i]? with
    | some b => some (.pointer (some ⟨b, off, none⟩))
    | none => none
  | .tt => some (.bool true)
  | .ff => some (.bool false)
  | .dec p d => some (.bool (@decide p d))
  | .ndec p d => some (.bool (!@decide p d))

/-- A value that hangs on no block of one's own. -/
def SV.val : SV → Option Value
  | .v x => some x
  | .ptr p => some (.pointer (some p))
  | .loc _ _ => none
  | .tt => some (.bool true)
  | .ff => some (.bool false)
  | .dec p d => some (.bool (@decide p d))
  | .ndec p d => some (.bool (!@decide p d))

theorem SV.val_conc {x : SV} {v : Value} (h : x.val = some v) (bs : List Nat) : conc bs x = some v := by
  cases x <;> simp only [SV.val] at h <;> first | exact h | cases h

def look : List (Nat × SV) → Nat → Option SV
  | [], _ => none
  | (i, x) :: r, j => match Nat.beq i j with
    | true => some x
    | false => look r j

def del : List (Nat × SV) → Nat → List (Nat × SV)
  | [], _ => []
  | (i, x) :: r, j => match Nat.beq i j with
    | true => del r j
    | false => (i, x) :: del r j

theorem look_mem {l : List (Nat × SV)} {j : Nat} {x : SV} (h : look l j = some x) : (j, x) ∈ l := by
  induction l with
  | nil => cases h
  | cons p r ih =>
    obtain ⟨i, y⟩ := p
    simp only [look] at h
    split at h
    · rename_i e; have := Nat.eq_of_beq_eq_true e; subst this; cases h; exact .head _
    · exact .tail _ (ih h)

theorem del_mem {l : List (Nat × SV)} {j : Nat} {p : Nat × SV} (h : p ∈ del l j) : p ∈ l ∧ p.1 ≠ j := by
  induction l with
  | nil => cases h
  | cons q r ih =>
    obtain ⟨i, y⟩ := q
    simp only [del] at h
    split at h
    · exact ⟨.tail _ (ih h).1, (ih h).2⟩
    · rename_i e
      cases h with
      | head => exact ⟨.head _, fun e' => by simp only at e'; subst e'; simp at e⟩
      | tail _ h => exact ⟨.tail _ (ih h).1, (ih h).2⟩

def St.put (s : St) (dst : Option Tmp) (x : SV) : St :=
  match dst with
  | none => s
  | some d => match Nat.blt d s.n with
    | true => { s with env := (d, x) :: del s.env d }
    | false => { s with env := del s.env d }

/-- A slot of which nothing is known any more. -/
def St.drop (s : St) (dst : Option Tmp) : St :=
  match dst with
  | none => s
  | some d => { s with env := del s.env d }

def St.sv (s : St) : Operand → Option SV
  | .tmp t => look s.env t
  | .const (.bool true) => some .tt
  | .const (.bool false) => some .ff
  | .const v => some (.v v)
  | .global g => some (.ptr ⟨g, 0, none⟩)
  | .func f => some (.v (.func (.func f) #[] #[]))

def St.val (s : St) (x : Operand) : Option Value := (s.sv x).bind SV.val

structure FitsE (s : St) (bs : List Nat) (a : Act) : Prop where
  defers : a.defers = dfsOf s.dfs
  n : a.tmps.size = s.n
  env : ∀ p ∈ s.env, ∃ v, conc bs p.2 = some v ∧ a.tmps[p.1]? = some v

structure Fits (s : St) (bs : List Nat) (u : H) (a : Act) (w : World) : Prop extends FitsE s bs a where
  len : bs.length = s.loc.length
  loc : ∀ (i : Nat) (cs : List Value), s.loc[i]? = some cs → ∃ (b : Nat) (T : TypeId), bs[i]? = some b ∧ w.heap[b]? = some (Obj.cells cs.toArray T (0, 0))
  nodup : bs.Nodup
  hid : ∀ b ∈ bs, u b = none ∧ b < w.heap.size
  sub : Sub u w

/-- The world's part of Fits. -/
structure FitsW (loc : List (List Value)) (bs : List Nat) (u : H) (w : World) : Prop where
  loc : ∀ (i : Nat) (cs : List Value), loc[i]? = some cs → ∃ (b : Nat) (T : TypeId), bs[i]? = some b ∧ w.heap[b]? = some (Obj.cells cs.toArray T (0, 0))
  sub : Sub u w

theorem Fits.w {s : St} {bs : List Nat} {u : H} {a : Act} {w : World} (h : Fits s bs u a w) : FitsW s.loc bs u w := ⟨h.loc, h.sub⟩

theorem FitsE.sv {s : St} {bs : List Nat} {a : Act} (h : FitsE s bs a) {x : Operand} {y : SV} (e : s.sv x = some y) : conc bs y = some (a.eval x) := by
  cases x with
  | tmp t =>
    simp only [St.sv] at e
    obtain ⟨v, h1, h2⟩ := h.env _ (look_mem e)
    simp only [Act.eval]
    simp only at h1 h2
    rw [h1, ← h2, Array.getD_eq_getD_getElem?, h2]; rfl
  | const v =>
    cases v <;> try (simp only [St.sv, Option.some.injEq] at e; subst e; rfl)
    rename_i b
    cases b <;> (simp only [St.sv, Option.some.injEq] at e; subst e; rfl)
  | global g => simp only [St.sv, Option.some.injEq] at e; subst e; rfl
  | func f => simp only [St.sv, Option.some.injEq] at e; subst e; rfl

theorem FitsE.val {s : St} {bs : List Nat} {a : Act} (h : FitsE s bs a) {x : Operand} {v : Value} (e : s.val x = some v) : a.eval x = v := by
  unfold St.val at e
  cases hx : s.sv x with
  | none => rw [hx] at e; cases e
  | some y =>
    rw [hx] at e
    have h1 := h.sv hx
    have h2 := SV.val_conc e bs
    rw [h1] at h2
    exact Option.some.inj h2

theorem put_tmps (a : Act) (d : Nat) (v : Value) (j : Nat) : (a.put (some d) v).tmps[j]? = if d = j ∧ j < a.tmps.size then some v else a.tmps[j]? := by
  simp only [Act.put, Array.getElem?_setIfInBounds]
  by_cases h : d = j
  · subst h
    by_cases h2 : d < a.tmps.size
    · simp [h2]
    · simp [h2]
  · simp [h]

theorem Fits.drop {s : St} {bs : List Nat} {u : H} {a : Act} {w : World} (h : Fits s bs u a w) (dst : Option Tmp) (v : Value) : Fits (s.drop dst) bs u (a.put dst v) w := by
  cases dst with
  | none => exact h
  | some d =>
    refine ⟨⟨h.defers, by simp [Act.put, h.n, St.drop], ?_⟩, h.len, h.loc, h.nodup, h.hid, h.sub⟩
    intro p hp
    obtain ⟨h1, h2⟩ := del_mem hp
    obtain ⟨x, hx, hy⟩ := h.env p h1
    refine ⟨x, hx, ?_⟩
    rw [put_tmps, if_neg (fun e => h2 e.1.symm)]
    exact hy

theorem Fits.put {s : St} {bs : List Nat} {u : H} {a : Act} {w : World} (h : Fits s bs u a w) (dst : Option Tmp) {x : SV} {v : Value} (e : conc bs x = some v) : Fits (s.put dst x) bs u (a.put dst v) w := by
  cases dst with
  | none => exact h
  | some d =>
    have hd := h.drop (some d) v
    cases hb : Nat.blt d s.n with
    | false =>
      have e1 : s.put (some d) x = s.drop (some d) := by simp only [St.put, hb, St.drop]
      rw [e1]; exact hd
    | true =>
      have e1 : s.put (some d) x = { s with env := (d, x) :: del s.env d } := by simp only [St.put, hb]
      rw [e1]
      have hlt : d < s.n := by simpa using hb
      refine ⟨⟨hd.defers, hd.n, ?_⟩, h.len, h.loc, h.nodup, h.hid, h.sub⟩
      intro p hp
      cases hp with
      | head => exact ⟨v, e, by rw [put_tmps, if_pos ⟨rfl, by rw [h.n]; exact hlt⟩]⟩
      | tail _ hp => exact hd.env p hp

/-- What is known may grow, the blocks of one's own as they are. -/
theorem Fits.step {s : St} {bs : List Nat} {u u' : H} {a : Act} {w w' : World} (h : Fits s bs u a w) (k : Step u [] w u' [] w') : Fits s bs u' a w' := by
  refine ⟨⟨h.defers, h.n, h.env⟩, h.len, ?_, h.nodup, ?_, k.sub⟩
  · intro i cs e
    obtain ⟨b, T, h1, h2⟩ := h.loc i cs e
    have hm : b ∈ bs := List.mem_of_getElem? h1
    exact ⟨b, T, h1, (k.rest b (h.hid b hm).2 (h.hid b hm).1 (by simp)).trans h2⟩
  · intro b hb
    exact ⟨k.honest b (h.hid b hb).2 (h.hid b hb).1, Nat.lt_of_lt_of_le (h.hid b hb).2 k.size⟩

theorem Step.hide {u u' : H} {w w' : World} (k : Step u [] w u' [] w') (bs : List Nat) : Step u bs w u' bs w' :=
  ⟨k.sub, k.os, k.tape, k.output, k.drawn, k.size, fun b hb hu _ => k.rest b hb hu (by simp), k.honest, [], by simp, by simp⟩

/-! ### kinds of types -/

def ctOf : Value → CT
  | .int k _ => .int k
  | .bool _ => .bool
  | .string _ => .str
  | .pointer _ => .ptr
  | .slice _ _ _ => .slice
  | .map _ => .map
  | _ => .val

def aggOf (P : Program) (t : TypeId) : Bool :=
  match P.underlying t with
  | some (.struct _) => true
  | some (.array _ _) => true
  | _ => false

/-- A type's cells, its zero's cells told by their kinds; only where the table's size is that of the zero. -/
def shOf (P : Program) (t : TypeId) : Option Sh :=
  match P.info? t with
  | some i => match i.zero, P.underlying t with
    | some (.agg cs), some _ => match aggOf P t, Nat.beq cs.size i.size with
      | true, true => some (.agg (cs.toList.map ctOf))
      | _, _ => none
    | some z, some _ => match aggOf P t, Nat.beq 1 i.size with
      | false, true => some (.one (ctOf z))
      | _, _ => none
    | _, _ => none
  | none => none

def shsOf (P : Program) (t : TypeId) : Option (List Sh) :=
  match P.underlying t with
  | some (.tuple ts) => ts.toList.mapM (shOf P)
  | _ => (shOf P t).map fun s => [s]

/-- A type's zero, in cells. -/
def zeroOf (P : Program) (t : TypeId) : Option (List Value) :=
  match P.info? t with
  | some i => i.zero.map fun z => z.cells.toList
  | none => none

def sizeOfT (P : Program) (t : TypeId) : Option Nat := (P.info? t).map (·.size)

/-! ### values that a Sem works out without looking at the world -/

def pureRun (P : Program) {α : Type} : Sem α → Option α
  | .pure a => some a
  | .program k => pureRun P (k P)
  | _ => none

theorem pureRun_run {P : Program} {α : Type} {m : Sem α} {a : α} (h : pureRun P m = some a) (w : World) : m.run P w = .ok a w := by
  induction m with
  | pure b => simp only [pureRun, Option.some.injEq] at h; subst h; rfl
  | program k ih => simp only [pureRun] at h; simp only [Sem.run]; exact ih _ h
  | _ => simp [pureRun] at h

def St.rho (s : St) (x : Operand) : Value := (s.val x).getD undef

def known (s : St) (o : Oper) : Bool := o.op.operands.toList.all fun x => (s.val x).isSome

theorem exec_rho {s : St} {bs : List Nat} {a : Act} (h : FitsE s bs a) {o : Oper} (hs : ∀ cs b, o.op ≠ .select cs b) (hk : known s o = true) : execOp a.eval o = execOp s.rho o := by
  refine execOp_congr o hs fun x hx => ?_
  have h1 := List.all_eq_true.1 hk x (Array.mem_toList_iff.2 hx)
  obtain ⟨v, hv⟩ := Option.isSome_iff_exists.1 h1
  rw [h.val hv]; simp [St.rho, hv]

/-- Operations that are worked out on the slots alone, where they can be; not those that look at memory. -/
def notSelect : Op → Bool
  | .select _ _ | .lookup .. | .mapUpdate .. | .insert .. | .makeMap .. | .makeSlice .. | .slice .. | .buildSlice .. | .typeAssert .. | .range .. | .next .. | .entry .. | .mapEntry .. | .entryStore .. => false
  | .call c => match c.callee with
    | .builtin .append | .builtin .copy | .builtin .delete | .builtin .clear => false
    | _ => true
  | _ => true

/-- The value of an operation that looks at no memory. -/
def plainVal (P : Program) (s : St) (o : Oper) : Option Value :=
  match known s o, notSelect o.op with
  | true, true => match pureRun P (execOp s.rho o) with
    | some (.value v) => some v
    | _ => none
  | _, _ => none

theorem plainVal_run {P : Program} {s : St} {bs : List Nat} {a : Act} (h : FitsE s bs a) {o : Oper} {v : Value} (e : plainVal P s o = some v) (w : World) : (execOp a.eval o).run P w = .ok (.value v) w := by
  unfold plainVal at e
  split at e
  · rename_i h1 h2
    split at e
    · rename_i x h3
      cases e
      rw [exec_rho h (fun cs b e => by rw [e] at h2; cases h2) h1]
      exact pureRun_run h3 w
    · cases e
  · cases e

/-! ### whole numbers: tests, sums -/

def cmpI : BinOp → Int → Int → Option SV
  | .eql, a, b => some (.dec (a = b) inferInstance)
  | .neq, a, b => some (.ndec (a = b) inferInstance)
  | .lss, a, b => some (.dec (a < b) inferInstance)
  | .leq, a, b => some (.dec (a ≤ b) inferInstance)
  | .gtr, a, b => some (.dec (b < a) inferInstance)
  | .geq, a, b => some (.dec (b ≤ a) inferInstance)
  | _, _, _ => none

theorem cmpI_run {op : BinOp} {a b : Int} {x : SV} (h : cmpI op a b = some x) (P : Program) (t : TypeId) (k : IntKind) (bs : List Nat) :
    ∃ v, conc bs x = some v ∧ ∀ w, (binOp op t (.int k a) (.int k b)).run P w = .ok v w := by
  cases op <;> simp only [cmpI, Option.some.injEq, reduceCtorEq] at h <;> subst h <;> refine ⟨_, rfl, fun w => ?_⟩
  · rw [binOp_eql]; rfl
  · rw [binOp_neq]; rfl
  · rw [binOp_lss]; rfl
  · rw [binOp_leq]; rfl
  · rw [binOp_gtr]; rfl
  · rw [binOp_geq]; rfl

def InR (x : Int) : Prop := -9223372036854775808 ≤ x ∧ x ≤ 9223372036854775807

theorem wrap_InR {x : Int} (h : InR x) : IntKind.i64.wrap x = x := by
  obtain ⟨h1, h2⟩ := h
  simp only [IntKind.wrap, IntKind.signed, IntKind.bits]
  simp only [Bool.true_and, decide_eq_true_eq, ge_iff_le]
  split <;> omega

/-- Sums of int that are not too great; of other kinds (or where it is asked for) they wrap. -/
def arithI (wrap : Bool) (op : BinOp) (k : IntKind) (a b : Int) (f : Int → Prop) : Prop :=
  let r : Option Int := match op with
    | .add => some (a + b)
    | .sub => some (a - b)
    | .mul => some (a * b)
    | _ => none
  match r with
  | some z => match k, wrap with
    | .i64, false => InR z ∧ f z
    | k, _ => f (k.wrap z)
  | none => match op with
    | .quo => b ≠ 0 ∧ (match k, wrap with
      | .i64, false => InR (a.tdiv b) ∧ f (a.tdiv b)
      | k, _ => f (k.wrap (a.tdiv b)))
    | .rem => b ≠ 0 ∧ f (a.tmod b)
    | .shl => 0 ≤ b ∧ f (k.wrap (a * 2 ^ (min b.toNat k.bits)))
    | .shr => 0 ≤ b ∧ f (a.fdiv (2 ^ (min b.toNat k.bits)))
    | .and => f (bits .and k a b)
    | .or => f (bits .or k a b)
    | .xor => f (bits .xor k a b)
    | .andNot => f (bits .andNot k a b)
    | _ => False

theorem arithI_run {wrap : Bool} {op : BinOp} {k : IntKind} {a b : Int} {f : Int → Prop} (h : arithI wrap op k a b f) (P : Program) (t : TypeId) (k' : IntKind)
    (hk : k' = k ∨ op = .shl ∨ op = .shr) :
    ∃ z, f z ∧ ∀ w, (binOp op t (.int k a) (.int k' b)).run P w = .ok (.int k z) w := by
  have two : ∀ z, (match k, wrap with | .i64, false => InR z ∧ f z | k, _ => f (k.wrap z)) → f (k.wrap z) := by
    intro z hz
    cases k <;> cases wrap <;> first | exact hz | (rw [wrap_InR hz.1]; exact hz.2)
  unfold arithI at h
  cases op <;> simp only [] at h
  case add => obtain rfl : k' = k := by simpa using hk
              exact ⟨_, two _ h, fun w => by rw [binOp_add]; rfl⟩
  case sub => obtain rfl : k' = k := by simpa using hk
              exact ⟨_, two _ h, fun w => by rw [binOp_sub]; rfl⟩
  case mul => obtain rfl : k' = k := by simpa using hk
              exact ⟨_, two _ h, fun w => by rw [binOp_mul]; rfl⟩
  case quo =>
    obtain rfl : k' = k := by simpa using hk
    exact ⟨_, two _ h.2, fun w => by rw [binOp_quo]; simp [Op.intDiv, h.1]⟩
  case rem =>
    obtain rfl : k' = k := by simpa using hk
    exact ⟨_, h.2, fun w => by rw [binOp_rem]; simp [Op.intDiv, h.1]⟩
  case and => obtain rfl : k' = k := by simpa using hk
              exact ⟨_, h, fun w => by rw [binOp_and, intBits_and]; rfl⟩
  case or => obtain rfl : k' = k := by simpa using hk
             exact ⟨_, h, fun w => by rw [binOp_or, intBits_or]; rfl⟩
  case xor => obtain rfl : k' = k := by simpa using hk
              exact ⟨_, h, fun w => by rw [binOp_xor, intBits_xor]; rfl⟩
  case andNot => obtain rfl : k' = k := by simpa using hk
                 exact ⟨_, h, fun w => by rw [binOp_andNot, intBits_andNot]; rfl⟩
  case shl =>
    refine ⟨_, h.2, fun w => ?_⟩
    rw [binOp_shl]
    have : ¬ b < 0 := by omega
    simp [Op.shift, this]
  case shr =>
    refine ⟨_, h.2, fun w => ?_⟩
    rw [binOp_shr]
    have : ¬ b < 0 := by omega
    simp [Op.shift, this]

end Go.Proofs.YtgfafpiinencpaaGreat
