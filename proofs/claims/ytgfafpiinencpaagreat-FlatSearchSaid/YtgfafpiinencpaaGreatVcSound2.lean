/- One operation: the formula is sound (the theorem). -/
import Derived.Test.YtgfafpiinencpaaGreatVcSound
namespace Go.Proofs.YtgfafpiinencpaaGreat

section
variable {C : Cfg} {wrt : Nat → Bool} {s : St} {o : Oper} {u : H} {K : St → H → Prop} {bs : List Nat} {a : Act} {w : World} {Q : Exit → Act → World → Prop}

theorem run_v {P : Program} {m : Sem Value} {v : Value} {w w' : World} (h : m.run P w = .ok v w') : (do pure (Next.value (← m)) : Sem Next).run P w = .ok (.value v) w' := by
  simp only [Sem.run_bind, h, Result.andThen_ok]; rfl

theorem run_u {P : Program} {m : Sem Unit} {w w' : World} (h : m.run P w = .ok () w') : (do m; pure Next.skip : Sem Next).run P w = .ok .skip w' := by
  simp only [Sem.run_bind, h, Result.andThen_ok]; rfl

theorem s_move (hf : FitsE s bs a) {x : Operand} (e : o.op = .move x ∨ o.op = .assign x) (h : match s.sv x with | some y => K (s.put o.dst y) u | none => False) :
    PV C s o u K bs a := by
  split at h
  · rename_i y hy
    refine ⟨y, a.eval x, h, (hf.sv hy), fun w => ?_⟩
    rcases e with e | e <;> (unfold execOp; rw [e]; rfl)
  · exact h.elim

theorem s_pick (hf : FitsE s bs a) {c x y : Operand} (e : o.op = .pick c x y) {b : Bool} (hc : a.eval c = .bool b) {z : SV} (hz : s.sv (if b then x else y) = some z) (h : K (s.put o.dst z) u) :
    PV C s o u K bs a := by
  refine ⟨z, a.eval (if b then x else y), h, (hf.sv hz), fun w => ?_⟩
  unfold execOp
  rw [e]
  simp only [hc]
  cases b <;> rfl

theorem conc_v (hf : FitsE s bs a) {x : Operand} {v : Value} (h : s.sv x = some (.v v)) : a.eval x = v := by
  have := hf.sv h
  simp only [conc, Option.some.injEq] at this
  exact this.symm

theorem conc_ptr (hf : FitsE s bs a) {x : Operand} {p : Addr} (h : s.sv x = some (.ptr p)) : a.eval x = .pointer (some p) := by
  have := hf.sv h
  simp only [conc, Option.some.injEq] at this
  exact this.symm

theorem conc_loc (hf : FitsE s bs a) {x : Operand} {i off : Nat} (h : s.sv x = some (.loc i off)) : ∃ b, bs[i]? = some b ∧ a.eval x = .pointer (some ⟨b, off, none⟩) := by
  have := hf.sv h
  simp only [conc] at this
  split at this
  · rename_i b hb; simp only [Option.some.injEq] at this; exact ⟨b, hb, this.symm⟩
  · cases this

theorem s_binInt (hf : FitsE s bs a) {op : BinOp} {t t' : TypeId} {x y : Operand} (e : o.op = .binOp op t x y t') {k k' : IntKind} {m n : Int}
    (hx : s.sv x = some (.v (.int k m))) (hy : s.sv y = some (.v (.int k' n)))
    (h : match cmpI op m n with
      | some z => match kEq k' k with
        | true => K (s.put o.dst z) u
        | false => False
      | none => match isShift op || kEq k' k with
        | true => arithI C.wrap op k m n fun z => K (s.put o.dst (.v (.int k z))) u
        | false => False) : PV C s o u K bs a := by
  have ex := conc_v hf hx
  have ey := conc_v hf hy
  have hrun : ∀ v w, (binOp op t (.int k m) (.int k' n)).run C.P w = .ok v w → (execOp a.eval o).run C.P w = .ok (.value v) w := by
    intro v w hv
    unfold execOp
    rw [e]
    simp only [ex, ey, eqGuard_at_int, pure_bind]
    exact run_v hv
  split at h
  · rename_i z hz
    split at h
    · rename_i hk
      have := kEq_eq hk
      subst this
      obtain ⟨v, h1, h2⟩ := cmpI_run hz C.P t k' bs
      exact ⟨z, v, h, h1, fun w => hrun v w (h2 w)⟩
    · exact h.elim
  · split at h
    · rename_i hk
      obtain ⟨z, h1, h2⟩ := arithI_run h C.P t k' (by
        simp only [Bool.or_eq_true] at hk
        rcases hk with hk | hk
        · cases op <;> simp [isShift] at hk <;> simp
        · exact .inl (kEq_eq hk))
      exact ⟨.v (.int k z), _, h1, rfl, fun w => hrun _ w (h2 w)⟩
    · exact h.elim

theorem s_eq (hG : Good C) (hf : FitsE s bs a) {op : BinOp} {t t' : TypeId} {x y : Operand} (e : o.op = .binOp op t x y t') {p q : SV} (hx : s.sv x = some p) (hy : s.sv y = some q)
    {z : PD} (hz : eqSV C t p q = some z) (h : (op = .eql ∧ K (s.put o.dst (.dec z.p z.d)) u) ∨ (op = .neq ∧ K (s.put o.dst (.ndec z.p z.d)) u)) :
    PV C s o u K bs a := by
  have h12 := eqSV_run hG hz bs (hf.sv hx) (hf.sv hy) x y
  rcases h with ⟨rfl, h⟩ | ⟨rfl, h⟩
  · refine ⟨.dec z.p z.d, .bool (@decide z.p z.d), h, rfl, fun w => ?_⟩
    unfold execOp; rw [e]; exact run_v (h12 w).1
  · refine ⟨.ndec z.p z.d, .bool (!@decide z.p z.d), h, rfl, fun w => ?_⟩
    unfold execOp; rw [e]; exact run_v (h12 w).2

theorem s_not (hf : FitsE s bs a) {t : TypeId} {x : Operand} (e : o.op = .unOp .not t x) {b : Bool} (hx : a.eval x = .bool b) {z : SV} (hz : conc bs z = some (.bool (!b))) (h : K (s.put o.dst z) u) :
    PV C s o u K bs a := by
  refine ⟨z, .bool (!b), h, hz, fun w => ?_⟩
  unfold execOp; rw [e]
  simp only [hx]
  rfl

theorem s_loadLoc (hf : FitsE s bs a) {t : TypeId} {x : Operand} (e : o.op = .load t x) {i off : Nat} (hx : s.sv x = some (.loc i off)) {sh : Sh} (hsh : shOf C.P t = some sh) {cs : List Value}
    (hl : s.loc[i]? = some cs) (hb : off + sh.cts.length ≤ cs.length) (h : K (s.put o.dst (.v (sh.mk ((cs.drop off).take sh.cts.length)))) u) :
    LV C s o u K bs a := by
  obtain ⟨b', h1', hev⟩ := conc_loc hf hx
  refine ⟨.v _, sh.mk ((cs.drop off).take sh.cts.length), h, rfl, fun w hw => ?_⟩
  obtain ⟨b, T, h1, h2⟩ := hw.loc i cs hl
  rw [h1] at h1'; cases h1'
  unfold execOp; rw [e]
  refine run_v ?_
  simp only [hev, Instr.loadAt, Instr.sureAddr, pure_bind]
  refine loadVar_run hsh _ (by simp; omega) ?_ ?_
  · have := loadBox_run (P := C.P) (off := off) h2 sh.cts.length 0 #[] (by simpa using hb)
    simpa using this
  · intro c hc
    subst hc
    simp only [Sh.cts, List.length_cons, List.length_nil] at hb ⊢
    have hlt : off < cs.length := by omega
    refine ⟨cs[off], ?_, ?_⟩
    · rw [List.drop_eq_getElem_cons hlt]; rfl
    · simp only [World.cell?, h2]; simp [hlt]

theorem s_loadPtr (hf : FitsE s bs a) {t : TypeId} {x : Operand} (e : o.op = .load t x) {p : Addr} (hx : s.sv x = some (.ptr p)) {sh : Sh} (hsh : shOf C.P t = some sh)
    (h : ldM u p 0 sh.cts fun vs => K (s.put o.dst (.v (sh.mk vs))) u) : LV C s o u K bs a := by
  obtain ⟨vs, hk, hK, hr⟩ := ldM_run (P := C.P) sh.cts 0 _ h
  refine ⟨.v _, sh.mk vs, hK, rfl, fun w hw => ?_⟩
  have hr1 := hr w #[] hw.sub
  unfold execOp; rw [e]
  refine run_v ?_
  simp only [conc_ptr hf hx, Instr.loadAt, Instr.sureAddr, pure_bind]
  refine loadVar_run hsh p (kinds_len hk) (by simpa using hr1) ?_
  intro c hc
  subst hc
  cases hk with
  | cons x hk' =>
    cases hk'
    obtain ⟨y, hy, _⟩ := h
    have hc := hw.sub.cell hy
    refine ⟨_, rfl, ?_⟩
    have hr' := hr1
    simp only [Sh.cts, List.length_cons, List.length_nil, loadCellsFrom, Sem.run_bind, load, Sem.run] at hr'
    have e0 : p.add 0 = p := by simp [Addr.add]
    rw [e0] at hr'
    have hc' : w.cell? p = some (CT.enc c y) := hc
    rw [hc'] at hr' ⊢
    simp at hr'
    rw [hr']

theorem ones_spec {vs : List Value} (h : ones vs = true) : ∀ v ∈ vs, v.oneCell' = true := by
  induction vs with
  | nil => simp
  | cons v vs ih =>
    simp only [ones, Bool.and_eq_true] at h
    intro x hx
    cases hx with
    | head => exact h.1
    | tail _ hx => exact ih h.2 x hx

theorem over_len (cs : List Value) (off : Nat) (vs : List Value) (h : off + vs.length ≤ cs.length) : (over cs off vs).length = cs.length := by
  simp [over]; omega

theorem Kept.setLoc {i : Nat} (hw : wrt i = true) (l : List Value) : Kept wrt s { s with loc := setL s.loc i l } := by
  refine ⟨rfl, by simp [setL_len], ?_⟩
  intro j cs h hj
  simp only [setL_get]
  rw [if_neg]
  · exact h
  · rintro ⟨rfl, _⟩; rw [hw] at hj; cases hj

theorem s_storeLoc (hf : Fits s bs u a w) {t : TypeId} {x y : Operand} (e : o.op = .store t x y) {i off : Nat} (hx : s.sv x = some (.loc i off)) {v : Value} (hy : s.val y = some v)
    {sh : Sh} (hsh : shOf C.P t = some sh) {cs : List Value} (hl : s.loc[i]? = some cs) (hw : wrt i = true) (hsz : v.cells.size = sh.cts.length) (h1 : ones v.cells.toList = true)
    (hb : off + sh.cts.length ≤ cs.length) (h : K ({ s with loc := setL s.loc i (over cs off v.cells.toList) }.drop o.dst) u) : o.wp C.P a w (After wrt K s bs u a w o.dst) Q := by
  obtain ⟨b, T, hb1, hb2⟩ := hf.loc i cs hl
  obtain ⟨b', hb1', hev⟩ := conc_loc hf.toFitsE hx
  rw [hb1] at hb1'; cases hb1'
  obtain ⟨ti, d, hti, _, htsz, _⟩ := shOf_spec hsh
  have hvl : v.cells.toList.length = sh.cts.length := by rw [Array.length_toList]; exact hsz
  obtain ⟨w', hr, hwr⟩ := storeVar_run (P := C.P) hti (off := off) (v := v) (by rw [htsz]; exact hsz) hb2 (by rw [hvl]; simpa using hb) (ones_spec h1)
  rw [wr_over _ _ _ (by rw [hvl]; exact hb)] at hwr
  have hm : b ∈ bs := List.mem_of_getElem? hb1
  have hub := hf.hid b hm
  have hlt : i < bs.length := by
    rcases Nat.lt_or_ge i bs.length with k | k
    · exact k
    · rw [List.getElem?_eq_none k] at hb1; cases hb1
  have hsub : Sub u w' := by
    intro x p ex
    have hne : x ≠ b := fun e => by subst e; rw [hub.1] at ex; cases ex
    rw [hwr.rest x hne]; exact hf.sub x p ex
  have hf' : Fits { s with loc := setL s.loc i (over cs off v.cells.toList) } bs u a w' := by
    refine ⟨⟨hf.defers, hf.n, hf.env⟩, by simp [setL_len, hf.len], ?_, hf.nodup, fun x hx => ⟨(hf.hid x hx).1, by rw [hwr.size]; exact (hf.hid x hx).2⟩, hsub⟩
    intro j cs' ej
    simp only [setL_get] at ej
    split at ej
    · rename_i hj
      obtain ⟨rfl, _⟩ := hj
      cases ej
      exact ⟨b, T, hb1, hwr.at_⟩
    · rename_i hj
      obtain ⟨b2, T2, h3, h4⟩ := hf.loc j cs' ej
      refine ⟨b2, T2, h3, ?_⟩
      rw [hwr.rest b2 ?_]
      · exact h4
      · rintro rfl
        have hjl : j < bs.length := by
          rcases Nat.lt_or_ge j bs.length with k | k
          · exact k
          · rw [List.getElem?_eq_none k] at h3; cases h3
        have hij : i = j := by
          exact (List.getElem?_inj hlt hf.nodup (j := j)).1 (by rw [hb1, h3])
        subst hij
        exact hj ⟨rfl, by rw [← hf.len]; exact hlt⟩
  have hst : Step u bs w u bs w' := ⟨hsub, hwr.os, hwr.tape, hwr.output, hwr.drawn, by rw [hwr.size]; exact Nat.le_refl _, fun x hx hux hnx => hwr.rest x (fun e => by subst e; exact hnx hm), fun _ _ e => e, [], by simp, by simp⟩
  unfold Oper.wp
  have hrun : (execOp a.eval o).run C.P w = .ok .skip w' := by
    unfold execOp; rw [e]
    refine run_u ?_
    simp only [hev, hf.val hy, Instr.storeAt, Instr.sureAddr, pure_bind]
    exact hr
  rw [hrun]
  exact ⟨_, u, bs, undef, h, hf'.drop o.dst undef, hst, rfl, (Kept.setLoc hw _).trans (Kept.drop wrt _ o.dst)⟩

theorem s_storePtr (hf : Fits s bs u a w) {t : TypeId} {x y : Operand} (e : o.op = .store t x y) {p : Addr} (hx : s.sv x = some (.ptr p)) {v : Value} (hy : s.val y = some v)
    {sh : Sh} (hsh : shOf C.P t = some sh) (hsz : v.cells.size = sh.cts.length) (h : u.St p v.cells.toList fun u' => K (s.drop o.dst) u') : o.wp C.P a w (After wrt K s bs u a w o.dst) Q := by
  obtain ⟨c, T, hc, hsp, hl, h1, hK⟩ := h
  obtain ⟨ti, d, hti, _, htsz, _⟩ := shOf_spec hsh
  obtain ⟨b, off, sp⟩ := p
  simp only at hsp hc hl hK
  subst hsp
  have hh := hf.sub _ _ hc
  obtain ⟨w', hr, hwr⟩ := storeVar_run (P := C.P) hti (off := off) (v := v) (by rw [htsz]; exact hsz) hh hl h1
  have hsub : Sub (u.ins b (.cells (wr c off v.cells.toList) T (0, 0))) w' := by
    intro x p ex
    unfold H.ins at ex
    split at ex
    · rename_i hxb; subst hxb; cases ex; exact hwr.at_
    · rename_i hxb; rw [hwr.rest x hxb]; exact hf.sub x p ex
  have hne : ∀ x, u x = none → x ≠ b := fun x' hx' e' => by rw [e', hc] at hx'; cases hx'
  have hf' : Fits s bs (u.ins b (.cells (wr c off v.cells.toList) T (0, 0))) a w' := by
    refine ⟨⟨hf.defers, hf.n, hf.env⟩, hf.len, ?_, hf.nodup, ?_, hsub⟩
    · intro j cs' ej
      obtain ⟨b2, T2, h3, h4⟩ := hf.loc j cs' ej
      exact ⟨b2, T2, h3, by rw [hwr.rest b2 (hne b2 (hf.hid b2 (List.mem_of_getElem? h3)).1)]; exact h4⟩
    · intro x hx
      have := hf.hid x hx
      exact ⟨by rw [H.ins_other u _ (hne x this.1)]; exact this.1, by rw [hwr.size]; exact this.2⟩
  have hst : Step u bs w (u.ins b (.cells (wr c off v.cells.toList) T (0, 0))) bs w' :=
    ⟨hsub, hwr.os, hwr.tape, hwr.output, hwr.drawn, by rw [hwr.size]; exact Nat.le_refl _, fun x hx hux hnx => hwr.rest x (hne x hux), fun x _ hux => by rw [H.ins_other u _ (hne x hux)]; exact hux, [], by simp, by simp⟩
  unfold Oper.wp
  have hrun : (execOp a.eval o).run C.P w = .ok .skip w' := by
    unfold execOp; rw [e]
    refine run_u ?_
    simp only [conc_ptr hf.toFitsE hx, hf.val hy, Instr.storeAt, Instr.sureAddr, pure_bind]
    exact hr
  rw [hrun]
  exact ⟨_, _, bs, undef, hK, hf'.drop o.dst undef, hst, rfl, Kept.drop wrt _ o.dst⟩

theorem zeroOf_spec {P : Program} {t : TypeId} {cs : List Value} (h : zeroOf P t = some cs) (w : World) : ∃ z, (zeroValue t).run P w = .ok z w ∧ z.cells.toList = cs := by
  unfold zeroOf at h
  split at h
  · rename_i i hi
    cases hz : i.zero with
    | none => rw [hz] at h; cases h
    | some z =>
      rw [hz] at h
      simp only [Option.map_some, Option.some.injEq] at h
      exact ⟨z, by simp [zeroValue, typeInfo, program, Sem.run, hi, hz], h⟩
  · cases h

theorem newVar_run {P : Program} (t : TypeId) (v : Value) (w : World) : (newVar t v).run P w = .ok ⟨w.heap.size, 0, none⟩ (w.alloc (.cells v.cells t (0, 0))) := by
  simp only [newVar, newRow, newObj, Sem.run_bind, Sem.run, Result.andThen_ok]
  rfl

/-- A new variable, hidden or known. -/
theorem s_new (hf : Fits s bs u a w) {d : Nat} (hd : o.dst = some d) {t : TypeId} {v : Value} (hr : (execOp a.eval o).run C.P w = .ok (.value (.pointer (some ⟨w.heap.size, 0, none⟩))) (w.alloc (.cells v.cells t (0, 0))))
    (h : match memB C.exp d with
      | true => ∀ b, u b = none → K (s.put (some d) (.ptr ⟨b, 0, none⟩)) (u.ins b (.cells v.cells.toList.toArray t (0, 0)))
      | false => K ({ s with loc := s.loc ++ [v.cells.toList] }.put (some d) (.loc s.loc.length 0)) u) : o.wp C.P a w (After wrt K s bs u a w o.dst) Q := by
  unfold Oper.wp
  rw [hr]
  have e1 : v.cells.toList.toArray = v.cells := by simp
  split at h
  · have h' := h w.heap.size (hf.sub.none (Nat.le_refl _))
    rw [e1, ← hd] at h'
    obtain ⟨h1, h2⟩ := hf.newKnown (.cells v.cells t (0, 0))
    exact ⟨_, _, bs, _, h', h1.put o.dst (x := .ptr _) rfl, h2, rfl, Kept.put wrt s _ _⟩
  · obtain ⟨h1, h2⟩ := hf.newBox v.cells.toList t
    rw [e1] at h1 h2
    rw [← hd] at h
    refine ⟨_, _, _, _, h, h1.put o.dst (x := .loc s.loc.length 0) ?_, h2, rfl, ?_⟩
    · simp only [conc]
      rw [← hf.len]
      simp
    · refine Kept.trans (b := { s with loc := s.loc ++ [v.cells.toList] }) ⟨rfl, by simp, fun i cs e _ => ?_⟩ (Kept.put wrt _ _ _)
      have hlt : i < s.loc.length := by
        rcases Nat.lt_or_ge i s.loc.length with k | k
        · exact k
        · rw [List.getElem?_eq_none k] at e; cases e
      show (s.loc ++ [v.cells.toList])[i]? = _
      rw [List.getElem?_append_left hlt]; exact e

theorem s_alloc (hf : Fits s bs u a w) {t : TypeId} (e : o.op = .alloc t) {d : Nat} (hd : o.dst = some d) {cs : List Value} (hz : zeroOf C.P t = some cs)
    (h : match memB C.exp d with
      | true => ∀ b, u b = none → K (s.put (some d) (.ptr ⟨b, 0, none⟩)) (u.ins b (.cells cs.toArray t (0, 0)))
      | false => K ({ s with loc := s.loc ++ [cs] }.put (some d) (.loc s.loc.length 0)) u) : o.wp C.P a w (After wrt K s bs u a w o.dst) Q := by
  obtain ⟨z, hzr, rfl⟩ := zeroOf_spec hz w
  refine s_new hf hd (t := t) (v := z) ?_ h
  unfold execOp; rw [e]
  refine run_v ?_
  simp only [Instr.alloc, Sem.run_bind, hzr, Result.andThen_ok, newVar_run]
  rfl

theorem s_box (hf : Fits s bs u a w) {t : TypeId} {x : Operand} (e : o.op = .box t x) {d : Nat} (hd : o.dst = some d) {v : Value} (hx : s.val x = some v)
    (h : match memB C.exp d with
      | true => ∀ b, u b = none → K (s.put (some d) (.ptr ⟨b, 0, none⟩)) (u.ins b (.cells v.cells.toList.toArray t (0, 0)))
      | false => K ({ s with loc := s.loc ++ [v.cells.toList] }.put (some d) (.loc s.loc.length 0)) u) : o.wp C.P a w (After wrt K s bs u a w o.dst) Q := by
  refine s_new hf hd (t := t) (v := v) ?_ h
  unfold execOp; rw [e]
  refine run_v ?_
  simp only [Instr.box, hf.val hx, Sem.run_bind, newVar_run, Result.andThen_ok]
  rfl

theorem und_run {P : Program} {t : TypeId} {d : TypeDesc} (h : P.underlying t = some d) (w : World) : (underlying t).run P w = .ok d w := by
  simp [underlying, program, Sem.run, h]

theorem s_field {t : TypeId} {x : Operand} {f n : Nat} (e : o.op = .fieldAddr t x f) (hn : offOf C.P t f = some n) {p : Addr} (hx : a.eval x = .pointer (some p)) (w : World) :
    (execOp a.eval o).run C.P w = .ok (.value (.pointer (some (p.add n)))) w := by
  unfold offOf at hn
  split at hn
  · rename_i fs hu
    split at hn
    · rename_i g hg
      split at hn
      · rename_i m hm
        cases hn
        simp only [sizeOfT, Option.map_eq_some_iff] at hm
        obtain ⟨i, hi, hsz⟩ := hm
        unfold execOp; rw [e]
        refine run_v ?_
        simp only [Instr.fieldAt, Sem.run_bind, und_run hu, Result.andThen_ok, hg, hx, Instr.sureAddr, fieldPlace, sizeOf_run hi, hsz]
        simp [sizeOf_run hi, hsz]
      · cases hn
    · cases hn
  · cases hn

theorem s_fieldLoc (hf : FitsE s bs a) {t : TypeId} {x : Operand} {f n : Nat} (e : o.op = .fieldAddr t x f) (hn : offOf C.P t f = some n) {i off : Nat} (hx : s.sv x = some (.loc i off))
    (h : K (s.put o.dst (.loc i (off + n))) u) : PV C s o u K bs a := by
  obtain ⟨b, hb, hev⟩ := conc_loc hf hx
  refine ⟨.loc i (off + n), _, h, ?_, s_field (C := C) e hn hev⟩
  have : (⟨b, off, none⟩ : Addr).add n = ⟨b, off + n, none⟩ := by unfold Addr.add; split <;> simp_all
  simp [conc, hb, this]

theorem s_fieldPtr (hf : FitsE s bs a) {t : TypeId} {x : Operand} {f n : Nat} (e : o.op = .fieldAddr t x f) (hn : offOf C.P t f = some n) {p : Addr} (hx : s.sv x = some (.ptr p))
    (h : K (s.put o.dst (.ptr (p.at' n))) u) : PV C s o u K bs a := by
  rw [at'_add] at h
  exact ⟨.ptr (p.add n), _, h, rfl, s_field (C := C) e hn (conc_ptr hf hx)⟩

theorem size_run {P : Program} {t : TypeId} {n : Nat} (h : sizeOfT P t = some n) (w : World) : (sizeOf t).run P w = .ok n w := by
  simp only [sizeOfT, Option.map_eq_some_iff] at h
  obtain ⟨i, hi, hsz⟩ := h
  rw [sizeOf_run hi, hsz]

theorem s_indexSlice (hf : FitsE s bs a) {t e' : TypeId} {x ix : Operand} (e : o.op = .indexAddr t x ix) (hu : C.P.underlying t = some (.slice e')) {ad : Option Addr} {n c : Nat} (hx : s.sv x = some (.v (.slice ad n c)))
    {k : IntKind} {i : Int} (hi : s.sv ix = some (.v (.int k i))) {sz : Nat} (hsz : sizeOfT C.P e' = some sz)
    (h : ∃ p, ad = some p ∧ (0 ≤ i ∧ i < n) ∧ K (s.put o.dst (.ptr (p.add (i.toNat * sz)))) u) : PV C s o u K bs a := by
  obtain ⟨p, rfl, hb, hK⟩ := h
  refine ⟨.ptr _, .pointer (some (p.add (i.toNat * sz))), hK, rfl, fun w => ?_⟩
  unfold execOp; rw [e]
  refine run_v ?_
  simp only [Instr.indexAt, conc_v hf hx, conc_v hf hi, asIntOf, pure_bind, Sem.run_bind, und_run hu, Result.andThen_ok]
  simp [hb, size_run hsz, und_run hu]

theorem s_indexArr (hf : FitsE s bs a) {t e' : TypeId} {len : Nat} {x ix : Operand} (e : o.op = .indexAddr t x ix) (hu : C.P.underlying t = some (.array len e')) {p : Addr} (hx : a.eval x = .pointer (some p))
    {k : IntKind} {i : Int} (hi : s.sv ix = some (.v (.int k i))) {sz : Nat} (hsz : sizeOfT C.P e' = some sz) (hb : 0 ≤ i ∧ i < len) (w : World) :
    (execOp a.eval o).run C.P w = .ok (.value (.pointer (some (p.add (i.toNat * sz))))) w := by
  unfold execOp; rw [e]
  refine run_v ?_
  simp only [Instr.indexAt, hx, conc_v hf hi, asIntOf, pure_bind, Sem.run_bind, und_run hu, Result.andThen_ok, Instr.sureAddr]
  simp [hb, size_run hsz, und_run hu]

end
end Go.Proofs.YtgfafpiinencpaaGreat
