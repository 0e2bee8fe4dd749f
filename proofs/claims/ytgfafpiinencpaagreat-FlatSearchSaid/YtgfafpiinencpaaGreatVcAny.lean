/- Whatever order is picked: what may be taken first. -/
import Derived.Test.YtgfafpiinencpaaGreatVcDraw
import Derived.OrdersHeld
namespace Go.Proofs.YtgfafpiinencpaaGreat

/-- Does operation j wait for i, through others too? -/
def waits (ops : Array Oper) : Nat → Nat → Nat → Bool
  | 0, _, _ => false
  | n + 1, j, i => match ops[j]? with
    | some o => o.after.toList.any fun e => Region.binds .any e && (Nat.beq e.on i || waits ops n e.on i)
    | none => false

/-- Whatever has come up, all that it waited for had come up before. -/
def Closed (ops : Array Oper) (listed : Array Bool) : Prop :=
  ∀ j o, ops[j]? = some o → listed.getD j false = true → ∀ e ∈ o.after, Region.binds .any e = true → listed.getD e.on false = true

theorem waits_listed {ops : Array Oper} {listed : Array Bool} (hc : Closed ops listed) : ∀ (n j i : Nat), waits ops n j i = true →
    (∀ o, ops[j]? = some o → ∀ e ∈ o.after, Region.binds .any e = true → listed.getD e.on false = true) → listed.getD i false = true := by
  intro n
  induction n with
  | zero => intro j i h; simp [waits] at h
  | succ n ih =>
    intro j i h hj
    simp only [waits] at h
    split at h
    · rename_i o ho
      obtain ⟨e, he, hb⟩ := List.any_eq_true.1 h
      simp only [Bool.and_eq_true, Bool.or_eq_true] at hb
      have hm : e ∈ o.after := Array.mem_toList_iff.1 he
      have h1 := hj o ho e hm hb.1
      rcases hb.2 with h2 | h2
      · have := Nat.eq_of_beq_eq_true h2; subst this; exact h1
      · exact ih e.on i h2 fun o' ho' e' he' hb' => hc e.on o' ho' h1 e' he' hb'
    · cases h

theorem Closed.set {ops : Array Oper} {listed : Array Bool} (hc : Closed ops listed) {i : Nat} (hr : i ∈ Region.ready .any ops listed) : Closed ops (listed.setIfInBounds i true) := by
  intro j o ho hj e he hb
  by_cases hji : j = i
  · subst hji
    obtain ⟨_, o', ho', hall⟩ := mem_ready.1 hr
    rw [ho] at ho'; cases ho'
    exact getD_set_true (hall e he hb)
  · rw [getD_set_ne false (Ne.symm hji)] at hj
    exact getD_set_true (hc j o ho hj e he hb)

section
variable {P : Program} {ops : Array Oper} {Q : Exit → Act → World → Prop} {nd : Nat → Bool} {S : World → Prop}

/-- Whatever order is picked from here on; and an operation that may come up ahead of a read leaves S as it is. -/
def wpAnyG (P : Program) (ops : Array Oper) (Q : Exit → Act → World → Prop) (nd : Nat → Bool) (S : World → Prop) : Nat → Array Bool → Act → World → Prop
  | 0, listed, a, w => Region.ready .any ops listed = [] ∧ Q .normal a w
  | fuel + 1, listed, a, w =>
    (Region.ready .any ops listed = [] → Q .normal a w) ∧
    ∀ i ∈ Region.ready .any ops listed, wpOp P ops Q i (fun a' w' => (nd i = true → S w → S w') ∧ wpAnyG P ops Q nd S fuel (listed.setIfInBounds i true) a' w') a w

theorem wpAny_of_G : ∀ (fuel : Nat) (listed : Array Bool) (a : Act) (w : World), wpAnyG P ops Q nd S fuel listed a w → wpAny P .any ops Q fuel listed a w
  | 0, _, _, _, h => h
  | fuel + 1, _, _, _, h => ⟨h.1, fun i hi => wpOp_mono (fun a' w' h' => wpAny_of_G fuel _ a' w' h'.2) (h.2 i hi)⟩

/-- It yields its value in every world of S (or in every world at all), and no other operation that may come up ahead of it leaves S. -/
theorem anyG_first {i : Nat} {oi : Oper} {v : Value} {T : World → Prop} (hi : ops[i]? = some oi) (hsel : ∀ (j : Nat) (o : Oper) cs b, ops[j]? = some o → o.op ≠ .select cs b)
    (hQ : ∀ c a w, ¬ Q (.panic c) a w) (N : Nat) (hT : (∀ w, T w) ∨ (T = S ∧ ∀ j, nd j = false → j = i ∨ waits ops N j i = true)) :
    ∀ (fuel : Nat) (listed : Array Bool) (a : Act) (w : World), Closed ops listed →
      (∀ j oj, ops[j]? = some oj → j ≠ i → listed.getD j true = false → (∀ e ∈ oj.after, Region.binds .any e = true → e.on ≠ i) → oi.apart ops oj = true) →
      i ∈ Region.ready .any ops listed → YieldsIf P ops T oi v a → T w →
      wpAnyG P ops Q nd S fuel (listed.setIfInBounds i true) (a.put oi.dst v) w → wpAnyG P ops Q nd S (fuel + 1) listed a w := by
  intro fuel
  induction fuel with
  | zero =>
    intro listed a w _ _ hr hy hS H
    refine ⟨fun h => (by rw [h] at hr; cases hr), fun j hj => ?_⟩
    by_cases hji : j = i
    · subst hji; exact hy.wpOp hi hS ⟨fun _ h => h, H⟩
    · have := ready_mono hj hji
      rw [H.1] at this
      cases this
  | succ fuel ih =>
    intro listed a w hc hfree hr hy hS H
    refine ⟨fun h => (by rw [h] at hr; cases hr), fun j hj => ?_⟩
    by_cases hji : j = i
    · subst hji; exact hy.wpOp hi hS ⟨fun _ h => h, H⟩
    · have h1 := H.2 j (ready_mono hj hji)
      obtain ⟨hjun, oj, hoj, hall⟩ := mem_ready.1 hj
      have hiun := (mem_ready.1 hr).1
      have hilf : listed.getD i false = false := by
        rcases Nat.lt_or_ge i listed.size with h' | h'
        · simp [h'] at hiun ⊢; exact hiun
        · simp [Array.getElem?_eq_none h'] at hiun
      have hnot : ∀ e ∈ oj.after, Region.binds .any e = true → e.on ≠ i := fun e he hb heq => by
        have h1 := hall e he hb
        rw [heq, hilf] at h1
        cases h1
      have h2 := wpOp_putIf hoj (hfree j oj hoj hji hjun hnot) (fun cs b => hsel i oi cs b hi) (fun cs b => hsel j oj cs b hoj) (fun c a w h => absurd h (hQ c _ w)) hy h1
      have hfree' : ∀ k ok, ops[k]? = some ok → k ≠ i → (listed.setIfInBounds j true).getD k true = false →
          (∀ e ∈ ok.after, Region.binds .any e = true → e.on ≠ i) → oi.apart ops ok = true := fun k ok hk hki hun hno => by
        refine hfree k ok hk hki ?_ hno
        by_cases hjk : j = k
        · subst hjk; exact hjun
        · rw [getD_set_ne true hjk] at hun; exact hun
      have hnd : (∀ w, T w) ∨ (T = S ∧ nd j = true) := by
        rcases hT with hT | ⟨hTS, hT⟩
        · exact .inl hT
        · refine .inr ⟨hTS, ?_⟩
          cases hn : nd j with
          | true => rfl
          | false =>
            rcases hT j hn with h' | h'
            · exact absurd h' hji
            · have := waits_listed hc N j i h' (fun o ho e he hb => by rw [hoj] at ho; cases ho; exact hall e he hb)
              rw [hilf] at this; cases this
      refine wpOp_mono (fun a' w' h3 => ⟨h3.2.1, ?_⟩) h2
      have hTw : T w' := by
        rcases hnd with h' | ⟨rfl, h'⟩
        · exact h' w'
        · exact h3.2.1 h' hS
      refine ih (listed.setIfInBounds j true) a' w' (hc.set hj) hfree' (ready_mono hr (Ne.symm hji)) h3.1 hTw ?_
      rw [Array.setIfInBounds_comm _ _ hji]
      exact h3.2.2

end

/-! ### the formula of a region whose order is open -/

def allI : List Nat → (Nat → Prop) → Prop
  | [], _ => True
  | [i], f => f i
  | i :: is, f => f i ∧ allI is f

theorem allI_spec {l : List Nat} {f : Nat → Prop} (h : allI l f) : ∀ i ∈ l, f i := by
  induction l with
  | nil => intro i hi; cases hi
  | cons x l ih =>
    cases l with
    | nil => intro i hi; simp only [List.mem_singleton] at hi; subst hi; exact h
    | cons y l =>
      intro i hi
      cases hi with
      | head => exact h.1
      | tail _ hi => exact ih h.2 i hi

def isLoad (ops : Array Oper) (i : Nat) : Bool :=
  match ops[i]? with
  | some o => match o.op with
    | .load _ _ => true
    | _ => false
  | none => false

/-- Operations that wait for none that makes or writes memory, or calls. -/
def synPure (o : Oper) : Bool :=
  match o.op with
  | .alloc _ | .box _ _ | .buildSlice .. | .store .. | .mapUpdate .. | .insert .. | .makeMap .. | .makeSlice .. | .lookup .. | .next .. | .range .. | .entry .. | .entryStore .. | .mapEntry .. => false
  | .call c => match c.callee with
    | .builtin .len | .builtin .cap | .builtin .min | .builtin .max => true
    | _ => false
  | _ => true

def early (ops : Array Oper) (r : Nat) : Bool :=
  isLoad ops r && (List.range ops.size).all fun j => match ops[j]? with
    | some o => synPure o || !waits ops ops.size r j
    | none => true

/-- May operation i come up ahead of a read that is taken first? -/
def ndOf (ops : Array Oper) (i : Nat) : Bool :=
  (List.range ops.size).any fun r => early ops r && !(Nat.beq r i) && !waits ops ops.size i r

def noWrite (_ : Nat) : Bool := false

/-- Operation i is carried out. -/
def execW (C : Cfg) (wrt : Nat → Bool) (ops : Array Oper) (s : St) (i : Nat) (u : H) (K : St → H → Prop) : Prop :=
  match ops[i]? with
  | none => False
  | some o => guardW s ops o fun s' want => match want with
    | true => stepOp C wrt s' o u K
    | false => K (s'.put o.dst (.v undef)) u

/-- The same for one that hangs on the slots alone. -/
def execP (C : Cfg) (wrt : Nat → Bool) (ops : Array Oper) (s : St) (i : Nat) (u : H) (K : St → H → Prop) : Prop :=
  match ops[i]? with
  | none => False
  | some o => guardW s ops o fun s' want => match want with
    | true => match isPureAt C s' o with
      | true => stepOp C wrt s' o u K
      | false => False
    | false => K (s'.put o.dst (.v undef)) u

def pureIx (C : Cfg) (ops : Array Oper) (s : St) (i : Nat) : Bool :=
  match ops[i]? with
  | none => false
  | some o => isPureAt C s o

def drawW (C : Cfg) (wrt : Nat → Bool) (ops : Array Oper) (u0 : H) : Nat → Array Bool → Bool → St → H → (St → H → Prop) → Prop
  | 0, _, _, _, _, _ => False
  | fuel + 1, listed, flag, s, u, K =>
    match (Region.ready .any ops listed).find? (fun i => pureIx C ops s i && Region.free .any ops listed i) with
    | some i => execP C wrt ops s i u fun s' u' => drawW C wrt ops u0 fuel (listed.setIfInBounds i true) flag s' u' K
    | none => match flag, (Region.ready .any ops listed).find? (fun i => early ops i && Region.free .any ops listed i) with
      | true, some i => execW C wrt ops s i u fun s' u' => drawW C wrt ops u0 fuel (listed.setIfInBounds i true) true s' u' K
      | _, _ => match Region.ready .any ops listed with
        | [] => K s u
        | r => allI r fun i => match ndOf ops i with
          | true => execW C noWrite ops s i u fun s' u' => u0.le u' ∧ drawW C wrt ops u0 fuel (listed.setIfInBounds i true) false s' u' K
          | false => execW C wrt ops s i u fun s' u' => drawW C wrt ops u0 fuel (listed.setIfInBounds i true) false s' u' K

end Go.Proofs.YtgfafpiinencpaaGreat
