/- One operation: the formula is sound. -/
import Derived.Test.YtgfafpiinencpaaGreatVcStep
namespace Go.Proofs.YtgfafpiinencpaaGreat

/-- What is asked of the program once. -/
structure Good (C : Cfg) : Prop where
  ng : ∀ (f : FuncId) (fn : Func), C.P.funcs[f]? = some fn → (fn.name == "runtime.NumGoroutine") = false
  mixed : C.P.follows .mixedOrders = true
  eq : ∀ t n, eqN C.eqT t = some n → ∀ xs ys z, xs.toList.length = n → ys.toList.length = n → eqCells xs.toList ys.toList = some z → ∀ (x y : Operand) (w : World),
    (eqGuard .eql t x y (.agg xs) (.agg ys)).run C.P w = .ok () w ∧ (eqGuard .neq t x y (.agg xs) (.agg ys)).run C.P w = .ok () w ∧
    (Op.equal t (.agg xs) (.agg ys)).run C.P w = .ok (@decide z.p z.d) w

/-- The boxes that may not be written are as they were. -/
structure Kept (wrt : Nat → Bool) (s s' : St) : Prop where
  n : s'.n = s.n
  len : s.loc.length ≤ s'.loc.length
  same : ∀ i cs, s.loc[i]? = some cs → wrt i = false → s'.loc[i]? = some cs

theorem Kept.refl (wrt : Nat → Bool) (s : St) : Kept wrt s s := ⟨rfl, Nat.le_refl _, fun _ _ h _ => h⟩
theorem Kept.trans {wrt : Nat → Bool} {a b c : St} (h : Kept wrt a b) (k : Kept wrt b c) : Kept wrt a c :=
  ⟨k.n.trans h.n, Nat.le_trans h.len k.len, fun i cs e w => k.same i cs (h.same i cs e w) w⟩

theorem put_loc (s : St) (d : Option Tmp) (x : SV) : (s.put d x).loc = s.loc ∧ (s.put d x).n = s.n := by
  cases d with
  | none => exact ⟨rfl, rfl⟩
  | some d => simp only [St.put]; split <;> exact ⟨rfl, rfl⟩

theorem drop_loc (s : St) (d : Option Tmp) : (s.drop d).loc = s.loc ∧ (s.drop d).n = s.n := by
  cases d <;> exact ⟨rfl, rfl⟩

theorem Kept.put (wrt : Nat → Bool) (s : St) (d : Option Tmp) (x : SV) : Kept wrt s (s.put d x) :=
  ⟨(put_loc s d x).2, by rw [(put_loc s d x).1]; exact Nat.le_refl _, fun i cs h _ => by rw [(put_loc s d x).1]; exact h⟩

theorem Kept.drop (wrt : Nat → Bool) (s : St) (d : Option Tmp) : Kept wrt s (s.drop d) :=
  ⟨(drop_loc s d).2, by rw [(drop_loc s d).1]; exact Nat.le_refl _, fun i cs h _ => by rw [(drop_loc s d).1]; exact h⟩

/-- What holds behind one operation. -/
def After (wrt : Nat → Bool) (K : St → H → Prop) (s : St) (bs : List Nat) (u : H) (a : Act) (w : World) (dst : Option Tmp) (a' : Act) (w' : World) : Prop :=
  ∃ s' u' bs' v, K s' u' ∧ Fits s' bs' u' a' w' ∧ Step u bs w u' bs' w' ∧ a' = a.put dst v ∧ Kept wrt s s'

section
variable {C : Cfg} {wrt : Nat → Bool} {s : St} {o : Oper} {u : H} {K : St → H → Prop} {bs : List Nat} {a : Act} {w : World} {Q : Exit → Act → World → Prop}

/-- An operation that yields a value and leaves the world. -/
theorem of_value {v : Value} {y : SV} (hf : Fits s bs u a w) (hr : (execOp a.eval o).run C.P w = .ok (.value v) w) (hc : conc bs y = some v) (hk : K (s.put o.dst y) u) :
    o.wp C.P a w (After wrt K s bs u a w o.dst) Q := by
  unfold Oper.wp
  rw [hr]
  exact ⟨_, u, bs, v, hk, hf.put o.dst hc, Step.refl hf.sub, rfl, Kept.put wrt s o.dst y⟩

/-- An operation that yields a value, what is known may have grown. -/
theorem of_grown {v : Value} {w' : World} {u' : H} (hf : Fits s bs u a w) (hr : (execOp a.eval o).run C.P w = .ok (.value v) w') (hs : Step u [] w u' [] w') (hk : K (s.put o.dst (.v v)) u') :
    o.wp C.P a w (After wrt K s bs u a w o.dst) Q := by
  unfold Oper.wp
  rw [hr]
  exact ⟨_, u', bs, v, hk, (hf.step hs).put o.dst (x := .v v) rfl, hs.hide bs, rfl, Kept.put wrt s o.dst _⟩

/-- A value that hangs on the slots alone. -/
def PV (C : Cfg) (s : St) (o : Oper) (u : H) (K : St → H → Prop) (bs : List Nat) (a : Act) : Prop :=
  ∃ y v, K (s.put o.dst y) u ∧ conc bs y = some v ∧ ∀ w, (execOp a.eval o).run C.P w = .ok (.value v) w

theorem of_PV (hf : Fits s bs u a w) (h : PV C s o u K bs a) : o.wp C.P a w (After wrt K s bs u a w o.dst) Q := by
  obtain ⟨y, v, hk, hc, hr⟩ := h
  exact of_value hf (hr w) hc hk

/-- A value that hangs on the slots, and on memory that is known. -/
def LV (C : Cfg) (s : St) (o : Oper) (u : H) (K : St → H → Prop) (bs : List Nat) (a : Act) : Prop :=
  ∃ y v, K (s.put o.dst y) u ∧ conc bs y = some v ∧ ∀ w, FitsW s.loc bs u w → (execOp a.eval o).run C.P w = .ok (.value v) w

theorem of_LV (hf : Fits s bs u a w) (h : LV C s o u K bs a) : o.wp C.P a w (After wrt K s bs u a w o.dst) Q := by
  obtain ⟨y, v, hk, hc, hr⟩ := h
  exact of_value hf (hr w hf.w) hc hk

theorem of_SemT {m : Sem Value} {ss : List Sh} (hf : Fits s bs u a w) (h : SemT C.P m ss u (contC s o.dst ss K))
    (hr : ∀ v w', m.run C.P w = .ok v w' → (execOp a.eval o).run C.P w = .ok (.value v) w' ∨ (execOp a.eval o).run C.P w = .ok .skip w' ∧ v = undef) :
    o.wp C.P a w (After wrt K s bs u a w o.dst) Q := by
  obtain ⟨v, w', u', e, ⟨vs, hv, rfl, hK⟩, hs⟩ := h w hf.sub
  have hK' : K (s.put o.dst (.v (encRes ss vs))) u' := (unC_lamC hv _).1 hK
  rcases hr _ _ e with h1 | ⟨h1, h2⟩
  · exact of_grown hf h1 hs hK'
  · unfold Oper.wp
    rw [h1]
    rw [h2] at hK'
    exact ⟨_, u', bs, undef, hK', (hf.step hs).put o.dst (x := .v undef) rfl, hs.hide bs, rfl, Kept.put wrt s o.dst _⟩

theorem of_ClT {f : FuncId} {args : Array Value} {ss : List Sh} (hf : Fits s bs u a w) (h : ClT C.P f args ss u (contC s o.dst ss K))
    (hr : (execOp a.eval o).run C.P w = .ok (.enter f args) w) : o.wp C.P a w (After wrt K s bs u a w o.dst) Q := by
  unfold Oper.wp
  rw [hr]
  refine (h w hf.sub).mono ?_
  rintro e w' ⟨v, u', rfl, ⟨vs, hv, rfl, hK⟩, hs⟩
  have hK' : K (s.put o.dst (.v (encRes ss vs))) u' := (unC_lamC hv _).1 hK
  exact ⟨_, u', bs, _, hK', (hf.step hs).put o.dst (x := .v _) rfl, hs.hide bs, rfl, Kept.put wrt s o.dst _⟩

theorem vals_eval (hf : FitsE s bs a) {xs : Array Operand} {vs : List Value} (h : vals s xs = some vs) : xs.map a.eval = vs.toArray := by
  unfold vals at h
  have key : ∀ (l : List Operand) (vs : List Value), l.mapM s.val = some vs → l.map a.eval = vs := by
    intro l
    induction l with
    | nil => intro vs h; simp at h; subst h; rfl
    | cons x l ih =>
      intro vs h
      simp only [List.mapM_cons, Option.bind_eq_bind, Option.bind_eq_some_iff, Option.pure_def, Option.some.injEq] at h
      obtain ⟨y, hy, ys, hys, rfl⟩ := h
      simp only [List.map_cons, ih ys hys, hf.val hy]
  apply Array.ext'
  simp only [Array.toList_map]
  exact key _ _ h

theorem hasBody_spec {P : Program} {f : FuncId} (h : hasBody P f = true) : ∃ fn, P.funcs[f]? = some fn ∧ fn.body.isSome = true := by
  unfold hasBody at h
  split at h
  · rename_i fn e; exact ⟨fn, e, h⟩
  · cases h

theorem callFunc_run (hG : Good C) {f : FuncId} (h : ∃ fn, C.P.funcs[f]? = some fn ∧ fn.body.isSome = true) (args : Array Value) (w : World) :
    (callFunc f args).run C.P w = .ok (.enter f args) w := by
  obtain ⟨fn, e, hb⟩ := h
  have h1 := hG.ng f fn e
  obtain ⟨b, hb'⟩ := Option.isSome_iff_exists.1 hb
  simp only [callFunc, Sem.run_bind, program, Sem.run, Result.andThen_ok, e]
  simp [h1, hb']

theorem known_rho (hf : FitsE s bs a) (hk : known s o = true) {x : Operand} (hx : x ∈ o.op.operands) : a.eval x = s.rho x := by
  have h1 := List.all_eq_true.1 hk x (Array.mem_toList_iff.2 hx)
  obtain ⟨v, hv⟩ := Option.isSome_iff_exists.1 h1
  rw [hf.val hv]; simp [St.rho, hv]

theorem andThen_value (r : Result Value) (f : Value → Sem Next) (P : Program) (hfv : ∀ v, f v = pure (.value v)) (v : Value) (w' : World) (h : r = .ok v w') :
    (r.andThen fun v w => (f v).run P w) = .ok (.value v) w' := by
  subst h; simp [hfv, Sem.run]

/-- What semOf tells is what the operation does. -/
theorem semOf_run (hs : ∀ cs b, o.op ≠ .select cs b) (hf : FitsE s bs a) (hk : known s o = true) {m : Sem Value} (hm : semOf s o = some m) {v : Value} {w' : World} (hr : m.run C.P w = .ok v w') :
    (execOp a.eval o).run C.P w = .ok (.value v) w' ∨ (execOp a.eval o).run C.P w = .ok .skip w' ∧ v = undef := by
  have hu : ∀ x : Sem Unit, (unit x).run C.P w = .ok v w' → (do x; pure Next.skip : Sem Next).run C.P w = .ok .skip w' ∧ v = undef := by
    intro x hx
    simp only [unit, Sem.run_bind] at hx ⊢
    cases hxr : x.run C.P w with
    | ok z w2 =>
      rw [hxr] at hx
      simp only [Result.andThen_ok] at hx ⊢
      cases hx
      exact ⟨rfl, rfl⟩
    | halt z w2 => rw [hxr] at hx; simp at hx
  have hv : ∀ x : Sem Value, x.run C.P w = .ok v w' → (do pure (Next.value (← x)) : Sem Next).run C.P w = .ok (.value v) w' := by
    intro x hx
    simp only [Sem.run_bind, hx, Result.andThen_ok]
    rfl
  rw [exec_rho hf hs hk]
  unfold semOf at hm
  unfold execOp
  split at hm
  all_goals try (rename_i e; rw [e]; cases hm; simp only [])
  case _ => exact .inl (hv _ hr)
  case _ => exact .inr (hu _ hr)
  case _ => exact .inr (hu _ hr)
  case _ => exact .inl (hv _ hr)
  case _ => exact .inl (hv _ hr)
  case _ => exact .inl (hv _ hr)
  case _ => exact .inl (hv _ hr)
  case _ => exact .inl (hv _ hr)
  case _ => exact .inl (hv _ hr)
  case _ => exact .inl (hv _ hr)
  case _ => exact .inl (hv _ hr)
  case _ => exact .inl (hv _ hr)
  case _ => exact .inl (hv _ hr)
  case _ => exact .inl (hv _ hr)
  case _ => exact .inl (hv _ hr)
  case _ => exact .inr (hu _ hr)
  case _ c e =>
    rw [e]
    simp only []
    split at hm
    all_goals try (rename_i hc; cases hm; left; simp only [resolve, hc, pure_bind, invoke, builtin]; exact hv _ hr)
    · rename_i f hc
      cases hm
      left
      simp only [resolve, hc, St.rho, St.val, St.sv, Option.bind_some, SV.val, Option.getD_some, Deferred.ofValue, pure_bind, invoke, Array.append_empty, Array.empty_append]
      simp only [callX, Sem.run_bind] at hr
      cases hx : (callFunc f (Array.map s.rho c.args)).run C.P w with
      | halt z w2 => rw [hx] at hr; simp at hr
      | ok z w2 =>
        rw [hx] at hr
        simp only [Result.andThen_ok] at hr
        cases z <;> simp only [] at hr <;> first
          | (have hr2 : Result.ok _ w2 = Result.ok v w' := hr; cases hr2; rfl)
          | (simp [stuck] at hr)
    · cases hm
  case _ => cases hm

theorem other_sound (hs : ∀ cs b, o.op ≠ .select cs b) (hf : Fits s bs u a w) (h : other C s o u K) : o.wp C.P a w (After wrt K s bs u a w o.dst) Q := by
  unfold other at h
  split at h
  · rename_i v e
    exact of_value (y := .v v) hf (plainVal_run hf.toFitsE e w) rfl h
  · split at h
    · rename_i hk hm hsh
      exact of_SemT hf h fun v w' hr => semOf_run hs hf.toFitsE hk hm hr
    · exact h.elim

theorem at'_add (p : Addr) (i : Nat) : p.at' i = p.add i := by
  cases i with
  | zero => simp [Addr.at', Addr.add]
  | succ i => rfl

theorem ldM_run {P : Program} {p : Addr} : ∀ (ts : List CT) (i : Nat) (f : List Value → Prop), ldM u p i ts f →
    ∃ vs, Kinds ts vs ∧ f vs ∧ ∀ w acc, Sub u w → (loadCellsFrom p i ts.length acc).run P w = .ok (acc ++ vs.toArray) w := by
  intro ts
  induction ts with
  | nil => intro i f h; exact ⟨[], .nil, h, fun w acc _ => by simp [loadCellsFrom]⟩
  | cons t ts ih =>
    intro i f h
    obtain ⟨x, hx, hr⟩ := h
    obtain ⟨vs, hk, hfv, hrun⟩ := ih (i + 1) _ hr
    refine ⟨t.enc x :: vs, .cons x hk, hfv, fun w acc hsub => ?_⟩
    rw [at'_add] at hx
    have h1 := hsub.cell hx
    simp only [List.length_cons, loadCellsFrom, Sem.run_bind, load, Sem.run, h1, Result.andThen_ok]
    rw [hrun w _ hsub]
    simp

theorem kinds_len {ts : List CT} {vs : List Value} (h : Kinds ts vs) : vs.length = ts.length := by
  induction h with
  | nil => rfl
  | cons _ _ ih => simp [ih]

theorem oneCell_ct (v : Value) : v.oneCell' = true ↔ v.cells = #[v] ∧ (∀ cs, v ≠ .agg cs) ∧ ∀ cs, v ≠ .tuple cs := by
  cases v <;> simp [Value.oneCell', Value.cells]

/-- What shOf tells of a type. -/
theorem shOf_spec {P : Program} {t : TypeId} {sh : Sh} (h : shOf P t = some sh) :
    ∃ i d, P.info? t = some i ∧ P.underlying t = some d ∧ i.size = sh.cts.length ∧
      (∀ w, (isAgg t).run P w = .ok (match sh with | .one _ => false | .agg _ => true) w) := by
  unfold shOf at h
  split at h
  · rename_i i hi
    split at h
    · rename_i cs d hz hd
      split at h
      · rename_i ha hb
        cases h
        refine ⟨i, d, hi, by assumption, ?_, ?_⟩
        · have := Nat.eq_of_beq_eq_true hb; simp [Sh.cts, this]
        · intro w
          unfold aggOf at ha
          rw [hd] at ha
          simp only [isAgg, Sem.run_bind, underlying, program, Sem.run, Result.andThen_ok, hd]
          cases d <;> simp_all
      · cases h
    · rename_i z d _ _ _
      have hd : P.underlying t = some d := by assumption
      split at h
      · rename_i ha hb
        cases h
        refine ⟨i, d, hi, by assumption, ?_, ?_⟩
        · have := Nat.eq_of_beq_eq_true hb; simp [Sh.cts, ← this]
        · intro w
          unfold aggOf at ha
          rw [hd] at ha
          simp only [isAgg, Sem.run_bind, underlying, program, Sem.run, Result.andThen_ok, hd]
          cases d <;> simp_all
      · cases h
    · cases h
  · cases h

theorem sizeOf_run {P : Program} {t : TypeId} {i : TypeInfo} (h : P.info? t = some i) (w : World) : (sizeOf t).run P w = .ok i.size w := by
  simp [sizeOf, typeInfo, program, Sem.run, h]

theorem loadVar_run {P : Program} {t : TypeId} {sh : Sh} (h : shOf P t = some sh) (p : Addr) {vs : List Value} (hk : vs.length = sh.cts.length)
    (hr : (loadCellsFrom p 0 sh.cts.length #[]).run P w = .ok vs.toArray w) (hw : ∀ c, sh = .one c → ∃ v, vs = [v] ∧ w.cell? p = some v) :
    (loadVar t p).run P w = .ok (sh.mk vs) w := by
  obtain ⟨i, d, hi, hd, hsz, ha⟩ := shOf_spec h
  unfold loadVar
  rw [Sem.run_bind, ha]
  cases sh with
  | one c =>
    obtain ⟨v, rfl, hv⟩ := hw c rfl
    simp [load, Sem.run, hv, Sh.mk]
  | agg cs =>
    simp only [Result.andThen_ok, if_true, Sem.run_bind, sizeOf_run hi, loadCells, hsz]
    rw [hr]
    simp [Sh.mk]

/-- Only block b has been written. -/
structure Wrote (b : Nat) (o : Obj) (w w' : World) : Prop where
  at_ : w'.heap[b]? = some o
  size : w'.heap.size = w.heap.size
  os : w'.os = w.os
  tape : w'.tape = w.tape
  output : w'.output = w.output
  drawn : w.drawn ≤ w'.drawn
  rest : ∀ x, x ≠ b → w'.heap[x]? = w.heap[x]?

theorem Wrote.refl {b : Nat} {o : Obj} {w : World} (h : w.heap[b]? = some o) : Wrote b o w w := ⟨h, rfl, rfl, rfl, rfl, Nat.le_refl _, fun _ _ => rfl⟩
theorem Wrote.trans {b : Nat} {o o' : Obj} {w w' w'' : World} (h : Wrote b o w w') (k : Wrote b o' w' w'') : Wrote b o' w w'' :=
  ⟨k.at_, k.size.trans h.size, k.os.trans h.os, k.tape.trans h.tape, k.output.trans h.output, Nat.le_trans h.drawn k.drawn, fun x hx => (k.rest x hx).trans (h.rest x hx)⟩

theorem Wrote.setCell {b off : Nat} {c : Array Value} {T : TypeId} {w : World} (h : w.heap[b]? = some (.cells c T (0, 0))) (v : Value) :
    Wrote b (.cells (c.setIfInBounds off v) T (0, 0)) w (w.setCell ⟨b, off, none⟩ v) := by
  refine ⟨?_, by simp [World.setCell], rfl, rfl, rfl, Nat.le_refl _, fun x hx => ?_⟩
  · simp only [World.setCell, Array.getElem?_modify, if_true, h, Option.map_some]
    simp
  · simp only [World.setCell, Array.getElem?_modify]
    rw [if_neg (fun e => hx e.symm)]

theorem storeCells_run {P : Program} {b off : Nat} {T : TypeId} : ∀ (vs : List Value) (i : Nat) (c : Array Value) (w : World), w.heap[b]? = some (.cells c T (0, 0)) →
    off + i + vs.length ≤ c.size → (∀ v ∈ vs, v.oneCell' = true) → ∃ w', (storeCells ⟨b, off, none⟩ vs i).run P w = .ok () w' ∧ Wrote b (.cells (wr c (off + i) vs) T (0, 0)) w w' := by
  intro vs
  induction vs with
  | nil => intro i c w h _ _; exact ⟨w, rfl, .refl h⟩
  | cons v vs ih =>
    intro i c w h hl h1
    simp only [List.length_cons] at hl
    have hw := Wrote.setCell (off := off + i) h v
    obtain ⟨w', hr, hw'⟩ := ih (i + 1) _ _ hw.at_ (by simp; omega) (fun x hx => h1 x (.tail _ hx))
    refine ⟨w', ?_, ?_⟩
    · have ha : (⟨b, off, none⟩ : Addr).add i = ⟨b, off + i, none⟩ := by unfold Addr.add; split <;> simp_all
      have hc : w.cell? ⟨b, off + i, none⟩ = some c[off + i] := by
        simp only [World.cell?, h]
        simp [Array.getElem?_eq_getElem (show off + i < c.size by omega)]
      have hfz : w.frozen? ⟨b, off + i, none⟩ = false := by simp [World.frozen?, h]
      simp only [storeCells, Sem.run_bind, ha]
      rw [run_store P w _ v _ (h1 v (.head _)), hc]
      simp only [hfz, Bool.false_eq_true, if_false, Result.andThen_ok]
      exact hr
    · have := hw.trans hw'
      simpa [wr, Nat.add_assoc] using this

theorem storeVar_run {P : Program} {t : TypeId} {i : TypeInfo} (hi : P.info? t = some i) {b off : Nat} {T : TypeId} {v : Value} (hsz : v.cells.size = i.size) {c : Array Value} {w : World}
    (h : w.heap[b]? = some (.cells c T (0, 0))) (hl : off + v.cells.toList.length ≤ c.size) (h1 : ∀ x ∈ v.cells.toList, x.oneCell' = true) :
    ∃ w', (storeVar t ⟨b, off, none⟩ v).run P w = .ok () w' ∧ Wrote b (.cells (wr c off v.cells.toList) T (0, 0)) w w' := by
  obtain ⟨w', hr, hw⟩ := storeCells_run (P := P) (off := off) v.cells.toList 0 c w h (by simpa using hl) h1
  refine ⟨w', ?_, by simpa using hw⟩
  unfold storeVar
  rw [Sem.run_bind, sizeOf_run hi]
  simp only [Result.andThen_ok, hsz, ne_eq, not_true_eq_false, if_false]
  exact hr

theorem loadBox_run {P : Program} {b off : Nat} {T : TypeId} {cs : List Value} {w : World} (h : w.heap[b]? = some (.cells cs.toArray T (0, 0))) : ∀ (n i : Nat) (acc : Array Value),
    off + i + n ≤ cs.length → (loadCellsFrom ⟨b, off, none⟩ i n acc).run P w = .ok (acc ++ ((cs.drop (off + i)).take n).toArray) w := by
  intro n
  induction n with
  | zero => intro i acc _; simp [loadCellsFrom]
  | succ n ih =>
    intro i acc hl
    have ha : (⟨b, off, none⟩ : Addr).add i = ⟨b, off + i, none⟩ := by unfold Addr.add; split <;> simp_all
    have hlt : off + i < cs.length := by omega
    have hc : w.cell? ⟨b, off + i, none⟩ = some cs[off + i] := by
      simp only [World.cell?, h]
      simp [hlt]
    simp only [loadCellsFrom, Sem.run_bind, load, Sem.run, ha, hc, Result.andThen_ok]
    rw [ih (i + 1) _ (by omega)]
    rw [List.drop_eq_getElem_cons hlt, List.take_succ_cons, ← Nat.add_assoc]
    simp

/-- A new block that nobody else knows. -/
theorem Fits.newBox (hf : Fits s bs u a w) (cs : List Value) (T : TypeId) :
    Fits { s with loc := s.loc ++ [cs] } (bs ++ [w.heap.size]) u a (w.alloc (.cells cs.toArray T (0, 0))) ∧
    Step u bs w u (bs ++ [w.heap.size]) (w.alloc (.cells cs.toArray T (0, 0))) := by
  have old : ∀ (b : Nat) (o : Obj), w.heap[b]? = some o → (w.alloc (.cells cs.toArray T (0, 0))).heap[b]? = some o := by
    intro b o e
    have hlt : b < w.heap.size := by
      rcases Nat.lt_or_ge b w.heap.size with k | k
      · exact k
      · rw [Array.getElem?_eq_none k] at e; cases e
    show (w.heap.push _)[b]? = _
    rw [Array.getElem?_push, if_neg (by omega)]
    exact e
  refine ⟨⟨⟨hf.defers, hf.n, ?_⟩, by simp [hf.len], ?_, ?_, ?_, fun b o e => old b o (hf.sub b o e)⟩, ⟨fun b o e => old b o (hf.sub b o e), rfl, rfl, rfl, Nat.le_refl _, by rw [World.size_alloc]; omega, ?_, fun _ _ e => e, [w.heap.size], rfl, by simp⟩⟩
  · intro p hp
    obtain ⟨v, h1, h2⟩ := hf.env p hp
    refine ⟨v, ?_, h2⟩
    cases hx : p.2 <;> rw [hx] at h1 <;> first | exact h1 | skip
    rename_i i off
    simp only [conc] at h1 ⊢
    split at h1
    · rename_i b hb
      have hlt : i < bs.length := by
        rcases Nat.lt_or_ge i bs.length with k | k
        · exact k
        · rw [List.getElem?_eq_none k] at hb; cases hb
      rw [List.getElem?_append_left hlt, hb]; exact h1
    · cases h1
  · intro i cs' e
    rcases Nat.lt_or_ge i s.loc.length with k | k
    · rw [List.getElem?_append_left k] at e
      obtain ⟨b, T', h1, h2⟩ := hf.loc i cs' e
      exact ⟨b, T', by rw [List.getElem?_append_left (by rw [hf.len]; exact k)]; exact h1, old _ _ h2⟩
    · rw [List.getElem?_append_right k] at e
      have hi : i = s.loc.length := by
        rcases Nat.eq_or_lt_of_le k with k' | k'
        · exact k'.symm
        · rw [List.getElem?_eq_none (by simp; omega)] at e; cases e
      subst hi
      simp only [Nat.sub_self, List.getElem?_cons_zero, Option.some.injEq] at e
      subst e
      refine ⟨w.heap.size, T, by rw [← hf.len]; simp, ?_⟩
      show (w.heap.push _)[w.heap.size]? = _
      simp
  · rw [List.nodup_append]
    refine ⟨hf.nodup, by simp, ?_⟩
    intro x hx y hy
    simp only [List.mem_singleton] at hy
    subst hy
    have := (hf.hid x hx).2
    omega
  · intro b hb
    rcases List.mem_append.1 hb with hb | hb
    · exact ⟨(hf.hid b hb).1, by have := (hf.hid b hb).2; rw [World.size_alloc]; omega⟩
    · simp only [List.mem_singleton] at hb
      subst hb
      exact ⟨hf.sub.none (Nat.le_refl _), by rw [World.size_alloc]; omega⟩
  · intro b hb _ _
    show (w.heap.push _)[b]? = _
    rw [Array.getElem?_push, if_neg (by omega)]

/-- A new block that is known. -/
theorem Fits.newKnown (hf : Fits s bs u a w) (o : Obj) :
    Fits s bs (u.ins w.heap.size o) a (w.alloc o) ∧ Step u bs w (u.ins w.heap.size o) bs (w.alloc o) := by
  have old : ∀ (b : Nat) (p : Obj), w.heap[b]? = some p → (w.alloc o).heap[b]? = some p := by
    intro b p e
    have hlt : b < w.heap.size := by
      rcases Nat.lt_or_ge b w.heap.size with k | k
      · exact k
      · rw [Array.getElem?_eq_none k] at e; cases e
    show (w.heap.push _)[b]? = _
    rw [Array.getElem?_push, if_neg (by omega)]
    exact e
  have hsub : Sub (u.ins w.heap.size o) (w.alloc o) := by
    intro b p e
    unfold H.ins at e
    split at e
    · rename_i hb; subst hb; cases e
      show (w.heap.push _)[w.heap.size]? = _
      simp
    · exact old b p (hf.sub b p e)
  refine ⟨⟨⟨hf.defers, hf.n, hf.env⟩, hf.len, ?_, hf.nodup, ?_, hsub⟩, ⟨hsub, rfl, rfl, rfl, Nat.le_refl _, by rw [World.size_alloc]; omega, ?_, ?_, [], by simp, by simp⟩⟩
  · intro i cs e
    obtain ⟨b, T, h1, h2⟩ := hf.loc i cs e
    exact ⟨b, T, h1, old _ _ h2⟩
  · intro b hb
    have := hf.hid b hb
    exact ⟨by rw [H.ins_other u o (by omega)]; exact this.1, by rw [World.size_alloc]; omega⟩
  · intro b hb _ _
    show (w.heap.push _)[b]? = _
    rw [Array.getElem?_push, if_neg (by omega)]
  · intro b hb e
    rw [H.ins_other u o (by omega)]; exact e

theorem setL_get {α : Type} (l : List α) (i : Nat) (y : α) (j : Nat) : (setL l i y)[j]? = if i = j ∧ j < l.length then some y else l[j]? := by
  induction l generalizing i j with
  | nil => simp [setL]
  | cons x xs ih =>
    cases i with
    | zero => cases j <;> simp [setL]
    | succ i => cases j with
      | zero => simp [setL]
      | succ j => simp only [setL, List.getElem?_cons_succ, ih]; simp

theorem setL_len {α : Type} (l : List α) (i : Nat) (y : α) : (setL l i y).length = l.length := by
  induction l generalizing i with
  | nil => rfl
  | cons x xs ih => cases i <;> simp [setL, ih]

theorem wr_over : ∀ (vs cs : List Value) (off : Nat), off + vs.length ≤ cs.length → wr cs.toArray off vs = (over cs off vs).toArray := by
  intro vs
  induction vs with
  | nil => intro cs off _; simp [wr, over]
  | cons v vs ih =>
    intro cs off h
    simp only [List.length_cons] at h
    simp only [wr]
    rw [List.setIfInBounds_toArray, ih _ _ (by simp; omega)]
    congr 1
    apply List.ext_getElem?
    intro j
    simp only [over, List.getElem?_append, List.length_append, List.length_take, List.length_set, List.getElem?_take, List.getElem?_drop, List.getElem?_set, List.length_cons]
    have e1 : min off cs.length = off := by omega
    have e2 : min (off + 1) cs.length = off + 1 := by omega
    rw [e1, e2]
    rcases Nat.lt_trichotomy j off with h1 | h1 | h1
    · rw [if_pos (by omega), if_pos (by omega), if_pos (by omega), if_neg (by omega), if_pos (by omega), if_pos (by omega), if_pos (by omega)]
    · subst h1
      rw [if_pos (by omega), if_pos (by omega), if_pos (by omega), if_pos rfl, if_pos (by omega), if_pos (by omega), if_neg (by omega)]
      simp
    · by_cases h2 : j < off + (vs.length + 1)
      · rw [if_pos (by omega), if_neg (by omega), if_pos h2, if_neg (by omega)]
        have : j - off = (j - (off + 1)) + 1 := by omega
        rw [this, List.getElem?_cons_succ]
      · rw [if_neg (by omega), if_neg (by omega)]
        rw [if_neg (by omega)]
        congr 1
        omega

theorem boolOf_conc {x : SV} {b : Bool} (h : boolOf x = some b) (bs : List Nat) : conc bs x = some (.bool b) := by
  unfold boolOf at h
  split at h <;> first | (cases h; rfl) | cases h

section
variable {P : Program} (d : Nat) {t : TypeId} (w : World)
theorem eqIn_ptr {e : TypeId} (hu : P.underlying t = some (.pointer e)) (p : Option Addr) : (Op.equalIn (d + 1) t (.pointer p) (.pointer none)).run P w = .ok p.isNone w := by
  simp only [Op.equalIn, Sem.run_bind, underlying, program, Sem.run, Result.andThen_ok, hu]
  cases p <;> simp
theorem eqIn_slice {e : TypeId} (hu : P.underlying t = some (.slice e)) (a : Option Addr) (n c m k : Nat) : (Op.equalIn (d + 1) t (.slice a n c) (.slice none m k)).run P w = .ok a.isNone w := by
  simp only [Op.equalIn, Sem.run_bind, underlying, program, Sem.run, Result.andThen_ok, hu]
  cases a <;> simp
theorem eqIn_map {k e : TypeId} (hu : P.underlying t = some (.map k e)) (a : Option Nat) : (Op.equalIn (d + 1) t (.map a) (.map none)).run P w = .ok a.isNone w := by
  simp only [Op.equalIn, Sem.run_bind, underlying, program, Sem.run, Result.andThen_ok, hu]
  cases a <;> simp
theorem eqIn_bool (hu : P.underlying t = some .bool) (a b : Bool) : (Op.equalIn (d + 1) t (.bool a) (.bool b)).run P w = .ok (a == b) w := by
  simp only [Op.equalIn, Sem.run_bind, underlying, program, Sem.run, Result.andThen_ok, hu]
  rfl
end

theorem equal_of {P : Program} {t : TypeId} {x y : Value} {b : Bool} {w : World} (h : (Op.equalIn (9999 + 1) t x y).run P w = .ok b w) : (Op.equal t x y).run P w = .ok b w := h

set_option maxHeartbeats 1000000 in
theorem eqSV_run (hG : Good C) {t : TypeId} {x y : SV} {z : PD} (h : eqSV C t x y = some z) (bs : List Nat) {vx vy : Value} (hx : conc bs x = some vx) (hy : conc bs y = some vy) (ox oy : Operand) (w : World) :
    (do eqGuard .eql t ox oy vx vy; binOp .eql t vx vy : Sem Value).run C.P w = .ok (.bool (@decide z.p z.d)) w ∧
    (do eqGuard .neq t ox oy vx vy; binOp .neq t vx vy : Sem Value).run C.P w = .ok (.bool (!@decide z.p z.d)) w := by
  unfold eqSV at h
  split at h
  · rename_i p
    cases hx; cases hy
    split at h
    · rename_i e hu
      cases h
      have hr := eqIn_ptr 9999 w hu p
      have hd : @decide (p = none) (decNone p) = p.isNone := by cases p <;> simp
      simp only [eqGuard_at_pointer, pure_bind, binOp, Sem.run_bind]
      rw [equal_of hr]
      simp [hd]
    · cases h
  · rename_i q
    cases hx; cases hy
    split at h
    · rename_i e hu
      cases h
      have hr := eqIn_ptr 9999 w hu (some q)
      simp only [eqGuard_at_pointer, pure_bind, binOp, Sem.run_bind]
      rw [equal_of hr]
      simp
    · cases h
  · rename_i a n c m k
    cases hx; cases hy
    split at h
    · rename_i e hu
      cases h
      have hr := eqIn_slice 9999 w hu a n c m k
      have hd : @decide (a = none) (decNone a) = a.isNone := by cases a <;> simp
      simp only [eqGuard_at_slice, pure_bind, binOp, Sem.run_bind]
      rw [equal_of hr]
      simp [hd]
    · cases h
  · rename_i a
    cases hx; cases hy
    split at h
    · rename_i k e hu
      cases h
      have hr := eqIn_map 9999 w hu a
      have hd : @decide (a = none) (decNone a) = a.isNone := by cases a <;> simp
      simp only [eqGuard_at_map, pure_bind, binOp, Sem.run_bind]
      rw [equal_of hr]
      simp [hd]
    · cases h
  · rename_i xs ys
    cases hx; cases hy
    split at h
    · rename_i n hm
      split at h
      · rename_i hl1 hl2
        obtain ⟨h1, h2, h3⟩ := hG.eq t n hm xs ys z (Nat.eq_of_beq_eq_true hl1) (Nat.eq_of_beq_eq_true hl2) h ox oy w
        simp only [Sem.run_bind, h1, h2, Result.andThen_ok, binOp, h3]
        exact ⟨rfl, rfl⟩
      · cases h
    · cases h
  · rename_i x y
    cases hx; cases hy
    cases h
    simp only [eqGuard_at_string, pure_bind, binOp, Op.stringOp]
    constructor
    · show Result.ok _ _ = _
      congr 2
      by_cases e : x.toList = y.toList <;> simp [e]
    · show Result.ok _ _ = _
      congr 2
      by_cases e : x.toList = y.toList <;> simp [e, bne]
  · split at h
    · rename_i a b ha hb hu
      cases h
      have h1 := boolOf_conc ha bs
      have h2 := boolOf_conc hb bs
      rw [hx] at h1; rw [hy] at h2
      cases h1; cases h2
      have hr := eqIn_bool 9999 w hu a b
      simp only [eqGuard_at_bool, pure_bind, binOp, Sem.run_bind]
      rw [equal_of hr]
      constructor
      · show Result.ok _ _ = _
        congr 2
      · show Result.ok _ _ = _
        congr 2
    · cases h

end
end Go.Proofs.YtgfafpiinencpaaGreat
