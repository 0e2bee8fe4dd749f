/- One operation's weakest precondition over symbolic slots (the formula). -/
import Derived.Test.YtgfafpiinencpaaGreatVcOps
import Derived.RangeFuncSeq
import Derived.TacticsIn
namespace Go.Proofs.YtgfafpiinencpaaGreat

/-- A proposition that can be decided. -/
structure PD where
  p : Prop
  d : Decidable p

def decNone {α : Type} (x : Option α) : Decidable (x = none) :=
  match x with
  | none => .isTrue rfl
  | some _ => .isFalse (by simp)

def eqCell : Value → Value → Option PD
  | .int k a, .int k' b => match kEq k k' with
    | true => some ⟨a = b, inferInstance⟩
    | false => none
  | _, _ => none

/-- Of how many whole numbers a struct is made, if it may be compared. -/
def eqN : List (Nat × Nat) → Nat → Option Nat
  | [], _ => none
  | (t, n) :: r, x => match Nat.beq t x with
    | true => some n
    | false => eqN r x

/-- All cells are the same. -/
def eqCells : List Value → List Value → Option PD
  | [], [] => some ⟨True, inferInstance⟩
  | [x], [y] => eqCell x y
  | x :: xs, y :: ys => match eqCell x y, eqCells xs ys with
    | some a, some b => some ⟨a.p ∧ b.p, @instDecidableAnd a.p b.p a.d b.d⟩
    | _, _ => none
  | _, _ => none

def boolOf : SV → Option Bool
  | .v (.bool b) => some b
  | .tt => some true
  | .ff => some false
  | .dec p d => some (@decide p d)
  | .ndec p d => some (!@decide p d)
  | _ => none

def isShift : BinOp → Bool
  | .shl => true
  | .shr => true
  | _ => false

/-- '==' of two values that are no whole numbers. -/
def eqSV (C : Cfg) (t : TypeId) : SV → SV → Option PD
  | .v (.pointer p), .v (.pointer none) => match C.P.underlying t with
    | some (.pointer _) => some ⟨p = none, decNone p⟩
    | _ => none
  | .ptr _, .v (.pointer none) => match C.P.underlying t with
    | some (.pointer _) => some ⟨False, inferInstance⟩
    | _ => none
  | .v (.slice a _ _), .v (.slice none _ _) => match C.P.underlying t with
    | some (.slice _) => some ⟨a = none, decNone a⟩
    | _ => none
  | .v (.map a), .v (.map none) => match C.P.underlying t with
    | some (.map _ _) => some ⟨a = none, decNone a⟩
    | _ => none
  | .v (.agg xs), .v (.agg ys) => match eqN C.eqT t with
    | some n => match Nat.beq xs.toList.length n, Nat.beq ys.toList.length n with
      | true, true => eqCells xs.toList ys.toList
      | _, _ => none
    | none => none
  | .v (.string x), .v (.string y) => some ⟨x.toList = y.toList, inferInstance⟩
  | x, y => match boolOf x, boolOf y, C.P.underlying t with
    | some a, some b, some .bool => some ⟨a = b, inferInstance⟩
    | _, _, _ => none

def _root_.Go.Addr.at' (p : Addr) : Nat → Addr
  | 0 => p
  | i + 1 => p.add (i + 1)

/-- Cells of these kinds lie there, one behind the other. -/
def ldM (u : H) (p : Addr) : Nat → List CT → (List Value → Prop) → Prop
  | _, [], f => f []
  | i, t :: ts, f => ∃ x : t.den, u.cell? (p.at' i) = some (t.enc x) ∧ ldM u p (i + 1) ts fun vs => f (t.enc x :: vs)

def Sh.mk : Sh → List Value → Value
  | .one _, v :: _ => v
  | .one _, [] => .tuple #[]
  | .agg _, vs => .agg vs.toArray

def wr : Array Value → Nat → List Value → Array Value
  | c, _, [] => c
  | c, o, v :: vs => wr (c.setIfInBounds o v) (o + 1) vs

/-- Values are stored there. -/
def H.St (u : H) (p : Addr) (vs : List Value) (f : H → Prop) : Prop :=
  ∃ (c : Array Value) (T : TypeId), u p.block = some (.cells c T (0, 0)) ∧ p.spot = none ∧ p.off + vs.length ≤ c.size ∧ (∀ v ∈ vs, v.oneCell' = true) ∧
    f (u.ins p.block (.cells (wr c p.off vs) T (0, 0)))

/-- A list with others in place of some. -/
def over (cs : List Value) (off : Nat) (vs : List Value) : List Value := cs.take off ++ vs ++ cs.drop (off + vs.length)

def ones : List Value → Bool
  | [] => true
  | v :: vs => v.oneCell' && ones vs

def setL {α : Type} : List α → Nat → α → List α
  | [], _, _ => []
  | _ :: xs, 0, y => y :: xs
  | x :: xs, i + 1, y => x :: setL xs i y

def offOf (P : Program) (t : TypeId) (f : Nat) : Option Nat :=
  match P.underlying t with
  | some (.struct fs) => match fs[f]? with
    | some g => match sizeOfT P g.type with
      | some (_ + 1) => some g.offset
      | _ => none
    | none => none
  | _ => none

def memB (l : List Nat) (x : Nat) : Bool := l.any (Nat.beq x)

def vals (s : St) (xs : Array Operand) : Option (List Value) := xs.toList.mapM s.val

/-- A call of a value that is a function. -/
def ClV (P : Program) (fv : Value) (args : Array Value) (ss : List Sh) (u : H) (K : Cur (ctsOf ss) (H → Prop)) : Prop :=
  ∃ f cap, fv = .func (.func f) #[] cap ∧ (∃ fn, P.funcs[f]? = some fn ∧ fn.body.isSome = true) ∧ ClT P f (args ++ cap) ss u K

/-- A call of a loop's own function (yield): a round. -/
def ClR (P : Program) (fv : Value) (args : Array Value) (ss : List Sh) (u : H) (K : Cur (ctsOf ss) (H → Prop)) : Prop :=
  ∃ l, fv = .func (.yield l) #[] #[] ∧ ∀ w, Sub u w → YieldAt Fence.wide 0 P l args w fun e w' => ∃ v u', e = .returned v ∧ (∃ vs, Kinds (ctsOf ss) vs ∧ v = encRes ss vs ∧ unC (ctsOf ss) K vs fun r => r u') ∧ Step u [] w u' [] w'

/-- A call of a function value, whatever function it is. -/
def ClY (P : Program) (fv : Value) (args : Array Value) (ss : List Sh) (u : H) (K : Cur (ctsOf ss) (H → Prop)) : Prop := ClV P fv args ss u K ∨ ClR P fv args ss u K

/-- A method called on an interface value. -/
def ClI (P : Program) (recv : Value) (name : String) (args : Array Value) (ss : List Sh) (u : H) (K : Cur (ctsOf ss) (H → Prop)) : Prop :=
  ∃ t v f r, recv = .iface t v ∧ (∀ w, Sub u w → (method (P.types.size + Made.depth) t v name).run P w = .ok (f, r) w) ∧
    (∃ fn, P.funcs[f]? = some fn ∧ fn.body.isSome = true) ∧ ClT P f (#[r] ++ args) ss u K

/-- A function that the model answers itself. -/
def callX (f : FuncId) (args : Array Value) : Sem Value := do
  match ← callFunc f args with
  | .value v => pure v
  | _ => stuck "callX"

def unit (m : Sem Unit) : Sem Value := do
  m
  pure undef

def hasBody (P : Program) (f : FuncId) : Bool :=
  match P.funcs[f]? with
  | some fn => fn.body.isSome
  | none => false

def noBody (P : Program) (f : FuncId) : Bool :=
  match P.funcs[f]? with
  | some fn => fn.body.isNone
  | none => false

/-- What an operation works out by a look at memory, its operands known. -/
def semOf (s : St) (o : Oper) : Option (Sem Value) :=
  match o.op with
  | .lookup t x i ok => some (Instr.lookup t (s.rho x) (s.rho i) ok)
  | .mapUpdate t m k x => some (unit (Instr.mapUpdate t (s.rho m) (s.rho k) (s.rho x)))
  | .insert t m k x => some (unit (Instr.mapUpdate t (s.rho m) (s.rho k) (s.rho x)))
  | .makeMap t none => some (Instr.makeMap t none)
  | .makeMap t (some r) => some (Instr.makeMap t (some (s.rho r)))
  | .makeSlice t l c => some (Instr.makeSlice t (s.rho l) (s.rho c))
  | .slice t x lo hi mx => some (Instr.sliceAt t (s.rho x) (lo.map s.rho) (hi.map s.rho) (mx.map s.rho))
  | .index t x i => some (Instr.index t (s.rho x) (s.rho i))
  | .convert a b x => some (Go.convert a b (s.rho x))
  | .buildSlice t n ps => some (Instr.buildSlice t n (ps.map fun (i, x) => (i, s.rho x)))
  | .typeAssert x a b ok => some (Instr.typeAssert (s.rho x) a b ok)
  | .range t x => some (Instr.range t (s.rho x))
  | .next i str => some (Instr.next (s.rho i) str o.type)
  | .entry i => some (Instr.entry (s.rho i))
  | .mapEntry t m k => some (Instr.mapEntry t (s.rho m) (s.rho k))
  | .entryStore t m k x => some (unit (Instr.entryStore t (s.rho m) (s.rho k) (s.rho x)))
  | .call c => match c.callee with
    | .builtin .append => some (Builtin.append_ c.argTypes o.type (c.args.map s.rho))
    | .builtin .copy => some (Builtin.copy_ c.argTypes o.type (c.args.map s.rho))
    | .builtin .delete => some (Builtin.delete_ c.argTypes o.type (c.args.map s.rho))
    | .builtin .len => some (Builtin.len_ c.argTypes o.type (c.args.map s.rho))
    | .builtin .max => some (Builtin.max_ c.argTypes o.type (c.args.map s.rho))
    | .builtin .min => some (Builtin.min_ c.argTypes o.type (c.args.map s.rho))
    | .builtin .clear => some (Builtin.clear_ c.argTypes o.type (c.args.map s.rho))
    | .value (.func f) => some (callX f (c.args.map s.rho))
    | _ => none
  | _ => none

/-- The type of what semOf yields: nothing, where it is a statement. -/
def isUnit : Op → Bool
  | .mapUpdate .. | .insert .. | .entryStore .. => true
  | .call c => match c.callee with
    | .builtin .delete | .builtin .clear => true
    | _ => false
  | _ => false

def semSh (P : Program) (o : Oper) : Option (List Sh) :=
  match isUnit o.op with
  | true => some []
  | false => match o.op with
    | .alloc _ | .buildSlice _ _ _ => shsOf P o.type
    | _ => shsOf P o.type

/-- The continuation behind an operation that yields values of these kinds. -/
def contC (s : St) (dst : Option Tmp) (ss : List Sh) (K : St → H → Prop) : Cur (ctsOf ss) (H → Prop) :=
  lamC (ctsOf ss) fun vs u' => K (s.put dst (.v (encRes ss vs))) u'

/-- An operation that nothing else here takes: a value worked out without memory, or by a look at it. -/
def other (C : Cfg) (s : St) (o : Oper) (u : H) (K : St → H → Prop) : Prop :=
  match plainVal C.P s o with
  | some v => K (s.put o.dst (.v v)) u
  | none => match known s o, semOf s o, semSh C.P o with
    | true, some m, some ss => SemT C.P m ss u (contC s o.dst ss K)
    | _, _, _ => False

def stepOp (C : Cfg) (wrt : Nat → Bool) (s : St) (o : Oper) (u : H) (K : St → H → Prop) : Prop :=
  match o.op with
  | .move x => match s.sv x with
    | some y => K (s.put o.dst y) u
    | none => False
  | .assign x => match s.sv x with
    | some y => K (s.put o.dst y) u
    | none => False
  | .pick c a b => match s.sv c, s.sv a, s.sv b with
    | some .tt, some y, _ => K (s.put o.dst y) u
    | some .ff, _, some y => K (s.put o.dst y) u
    | some (.dec p _), some y, some z => (p → K (s.put o.dst y) u) ∧ (¬ p → K (s.put o.dst z) u)
    | some (.ndec p _), some y, some z => (¬ p → K (s.put o.dst y) u) ∧ (p → K (s.put o.dst z) u)
    | _, _, _ => False
  | .binOp op t x y _ => match s.sv x, s.sv y with
    | some (.v (.int k a)), some (.v (.int k' b)) => match cmpI op a b with
      | some z => match kEq k' k with
        | true => K (s.put o.dst z) u
        | false => False
      | none => match isShift op || kEq k' k with
        | true => arithI C.wrap op k a b fun z => K (s.put o.dst (.v (.int k z))) u
        | false => False
    | some a, some b => match op with
      | .eql => match eqSV C t a b with
        | some z => K (s.put o.dst (.dec z.p z.d)) u
        | none => False
      | .neq => match eqSV C t a b with
        | some z => K (s.put o.dst (.ndec z.p z.d)) u
        | none => False
      | _ => other C s o u K
    | _, _ => False
  | .unOp .not _ x => match s.sv x with
    | some .tt => K (s.put o.dst .ff) u
    | some .ff => K (s.put o.dst .tt) u
    | some (.dec p d) => K (s.put o.dst (.ndec p d)) u
    | some (.ndec p d) => K (s.put o.dst (.dec p d)) u
    | some (.v (.bool b)) => K (s.put o.dst (.ndec (b = true) inferInstance)) u
    | _ => False
  | .load t x => match s.sv x, shOf C.P t with
    | some (.loc i off), some sh => match s.loc[i]? with
      | some cs => match Nat.ble (off + sh.cts.length) cs.length with
        | true => K (s.put o.dst (.v (sh.mk ((cs.drop off).take sh.cts.length)))) u
        | false => False
      | none => False
    | some (.ptr p), some sh => ldM u p 0 sh.cts fun vs => K (s.put o.dst (.v (sh.mk vs))) u
    | _, _ => False
  | .store t x y => match s.sv x, s.val y, shOf C.P t with
    | some (.loc i off), some v, some sh => match s.loc[i]?, wrt i, Nat.beq v.cells.size sh.cts.length, ones v.cells.toList with
      | some cs, true, true, true => match Nat.ble (off + sh.cts.length) cs.length with
        | true => K ({ s with loc := setL s.loc i (over cs off v.cells.toList) }.drop o.dst) u
        | false => False
      | _, _, _, _ => False
    | some (.ptr p), some v, some sh => match Nat.beq v.cells.size sh.cts.length with
      | true => u.St p v.cells.toList fun u' => K (s.drop o.dst) u'
      | false => False
    | _, _, _ => False
  | .alloc t => match zeroOf C.P t, o.dst with
    | some cs, some d => match memB C.exp d with
      | true => ∀ b, u b = none → K (s.put (some d) (.ptr ⟨b, 0, none⟩)) (u.ins b (.cells cs.toArray t (0, 0)))
      | false => K ({ s with loc := s.loc ++ [cs] }.put (some d) (.loc s.loc.length 0)) u
    | _, _ => False
  | .box t x => match s.val x, o.dst with
    | some v, some d => match memB C.exp d with
      | true => ∀ b, u b = none → K (s.put (some d) (.ptr ⟨b, 0, none⟩)) (u.ins b (.cells v.cells.toList.toArray t (0, 0)))
      | false => K ({ s with loc := s.loc ++ [v.cells.toList] }.put (some d) (.loc s.loc.length 0)) u
    | _, _ => False
  | .nilCheck x => match s.sv x with
    | some (.loc i off) => K (s.put o.dst (.loc i off)) u
    | some (.ptr p) => K (s.put o.dst (.ptr p)) u
    | some (.v (.pointer q)) => ∃ p, q = some p ∧ K (s.put o.dst (.ptr p)) u
    | _ => False
  | .fieldAddr t x f => match s.sv x, offOf C.P t f with
    | some (.loc i off), some n => K (s.put o.dst (.loc i (off + n))) u
    | some (.ptr p), some n => K (s.put o.dst (.ptr (p.at' n))) u
    | _, _ => False
  | .indexAddr t x ix => match C.P.underlying t with
    | some (.slice e) => match s.sv x, s.sv ix, sizeOfT C.P e with
      | some (.v (.slice a n _)), some (.v (.int _ i)), some sz => ∃ p, a = some p ∧ (0 ≤ i ∧ i < n) ∧ K (s.put o.dst (.ptr (p.add (i.toNat * sz)))) u
      | _, _, _ => False
    | some (.array len e) => match s.sv x, s.sv ix, sizeOfT C.P e with
      | some (.loc j off), some (.v (.int _ (.ofNat m))), some (sz + 1) => match Nat.blt m len with
        | true => K (s.put o.dst (.loc j (off + m * (sz + 1)))) u
        | false => False
      | some (.ptr p), some (.v (.int _ i)), some sz => 2 ≤ len ∧ (0 ≤ i ∧ i < len) ∧ K (s.put o.dst (.ptr (p.add (i.toNat * sz)))) u
      | _, _, _ => False
    | _ => False
  | .call c => match vals s c.args, shsOf C.P o.type with
    | some vs, some ss => match c.callee with
      | .value (.func f) => match hasBody C.P f with
        | true => ClT C.P f vs.toArray ss u (contC s o.dst ss K)
        | false => match noBody C.P f with
          | true => SemT C.P (callX f vs.toArray) ss u (contC s o.dst ss K)
          | false => False
      | .value x => match s.sv x with
        | some (.v fv) => ClV C.P fv vs.toArray ss u (contC s o.dst ss K)
        | _ => False
      | .invoke x name => match s.sv x with
        | some (.v r) => ClI C.P r name vs.toArray ss u (contC s o.dst ss K)
        | _ => False
      | .builtin _ => other C s o u K
    | _, _ => False
  | _ => other C s o u K

end Go.Proofs.YtgfafpiinencpaaGreat
