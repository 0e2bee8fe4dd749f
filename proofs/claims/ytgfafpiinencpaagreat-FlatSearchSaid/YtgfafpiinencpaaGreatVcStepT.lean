/- One operation: the formula is sound (all kinds of operations together). -/
import Derived.Test.YtgfafpiinencpaaGreatVcSound2
namespace Go.Proofs.YtgfafpiinencpaaGreat

section
variable {C : Cfg} {wrt : Nat → Bool} {s : St} {o : Oper} {u : H} {K : St → H → Prop} {bs : List Nat} {a : Act} {w : World} {Q : Exit → Act → World → Prop}

theorem s_call (hG : Good C) (hf : Fits s bs u a w) {c : Call} (e : o.op = .call c)
    (h : match vals s c.args, shsOf C.P o.type with
    | some vs, some ss => match c.callee with
      | .value (.func f) => match hasBody C.P f with
        | true => ClT C.P f vs.toArray ss u (contC s o.dst ss K)
        | false => match noBody C.P f with
          | true => SemT C.P (callX f vs.toArray) ss u (contC s o.dst ss K)
          | false => False
      | .value x => match s.sv x with
        | some (.v fv) => ClV C.P fv vs.toArray ss u (contC s o.dst ss K)
        | _ => False
      | .invoke x name => match s.sv x with
        | some (.v r) => ClI C.P r name vs.toArray ss u (contC s o.dst ss K)
        | _ => False
      | .builtin _ => other C s o u K
    | _, _ => False) : o.wp C.P a w (After wrt K s bs u a w o.dst) Q := by
  split at h
  · rename_i vs ss hv hss
    have hargs := vals_eval hf.toFitsE hv
    split at h
    · rename_i f hc
      have hx : ∀ W, (execOp a.eval o).run C.P W = (callFunc f vs.toArray).run C.P W := by
        intro W
        unfold execOp; rw [e]
        simp only [resolve, hc, Act.eval, Deferred.ofValue, pure_bind, invoke, hargs]
        simp
      split at h
      · rename_i hb
        refine of_ClT hf h ?_
        rw [hx, callFunc_run hG (hasBody_spec hb)]
      · split at h
        · refine of_SemT hf h fun v w' hr => .inl ?_
          rw [hx]
          simp only [callX, Sem.run_bind] at hr
          cases hz : (callFunc f vs.toArray).run C.P w with
          | halt z w2 => rw [hz] at hr; simp at hr
          | ok z w2 =>
            rw [hz] at hr
            simp only [Result.andThen_ok] at hr
            cases z <;> simp only [] at hr <;> first
              | (have hr2 : Result.ok _ w2 = Result.ok v w' := hr; cases hr2; rfl)
              | (simp [stuck] at hr)
        · exact h.elim
    · rename_i x _ hc
      split at h
      · rename_i fv hx
        obtain ⟨f, cap, rfl, hb, hcl⟩ := h
        refine of_ClT hf hcl ?_
        unfold execOp; rw [e]
        simp only [resolve, hc, conc_v hf.toFitsE hx, Deferred.ofValue, pure_bind, invoke, hargs]
        have := callFunc_run hG hb (vs.toArray ++ cap) w
        simpa using this
      · exact h.elim
    · rename_i x name hc
      split at h
      · rename_i r hx
        obtain ⟨t, v, f, rc, rfl, hm, hb, hcl⟩ := h
        refine of_ClT hf hcl ?_
        unfold execOp; rw [e]
        simp only [resolve, hc, conc_v hf.toFitsE hx, pure_bind, invoke, hargs]
        have h0 : (#[Value.iface t v] ++ vs.toArray)[0]? = some (.iface t v) := by simp
        have h1 : (#[Value.iface t v] ++ vs.toArray).extract 1 (#[Value.iface t v] ++ vs.toArray).size = vs.toArray := by
          apply Array.ext'
          simp
        simp only [h0, h1, callMethod, Sem.run_bind, program]
        show (Result.andThen ((method (C.P.types.size + Made.depth) t v name).run C.P w) fun p w' => (callFunc p.1 (#[p.2] ++ vs.toArray)).run C.P w') = _
        rw [hm w hf.sub]
        exact callFunc_run hG hb _ w
      · exact h.elim
    · exact other_sound (fun cs b => by rw [e]; exact Op.noConfusion) hf h
  · exact h.elim

set_option maxHeartbeats 1000000 in
theorem step_sound (hG : Good C) (hf : Fits s bs u a w) (h : stepOp C wrt s o u K) : o.wp C.P a w (After wrt K s bs u a w o.dst) Q := by
  have hoth : (∀ cs b, o.op ≠ .select cs b) → other C s o u K → o.wp C.P a w (After wrt K s bs u a w o.dst) Q := fun hs => other_sound hs hf
  unfold stepOp at h
  split at h
  · rename_i x e; exact of_PV hf (s_move hf.toFitsE (.inl e) h)
  · rename_i x e; exact of_PV hf (s_move hf.toFitsE (.inr e) h)
  · rename_i c x y e
    split at h
    · rename_i hc hx; exact of_PV hf (s_pick hf.toFitsE e (b := true) (Option.some.inj (hf.sv hc)).symm hx h)
    · rename_i hc hy; exact of_PV hf (s_pick hf.toFitsE e (b := false) (Option.some.inj (hf.sv hc)).symm hy h)
    · rename_i p d y' z' hc hx hy
      have hev := (Option.some.inj (hf.sv hc)).symm
      by_cases hp : p
      · exact of_PV hf (s_pick hf.toFitsE e (b := true) (by rw [hev]; simp [hp]) hx (h.1 hp))
      · exact of_PV hf (s_pick hf.toFitsE e (b := false) (by rw [hev]; simp [hp]) hy (h.2 hp))
    · rename_i p d y' z' hc hx hy
      have hev := (Option.some.inj (hf.sv hc)).symm
      by_cases hp : p
      · exact of_PV hf (s_pick hf.toFitsE e (b := false) (by rw [hev]; simp [hp]) hy (h.2 hp))
      · exact of_PV hf (s_pick hf.toFitsE e (b := true) (by rw [hev]; simp [hp]) hx (h.1 hp))
    · exact h.elim
  · rename_i op t x y t' e
    split at h
    · rename_i k m k' n hx hy
      exact of_PV hf (s_binInt hf.toFitsE e hx hy h)
    · rename_i p q _ hx hy
      split at h
      · split at h
        · rename_i z hz; exact of_PV hf (s_eq hG hf.toFitsE e hx hy hz (.inl ⟨rfl, h⟩))
        · exact h.elim
      · split at h
        · rename_i z hz; exact of_PV hf (s_eq hG hf.toFitsE e hx hy hz (.inr ⟨rfl, h⟩))
        · exact h.elim
      · exact hoth (fun cs b => by rw [e]; exact Op.noConfusion) h
    · exact h.elim
  · rename_i t x e
    split at h
    · rename_i hx; exact of_PV hf (s_not hf.toFitsE e (b := true) (Option.some.inj (hf.sv hx)).symm rfl h)
    · rename_i hx; exact of_PV hf (s_not hf.toFitsE e (b := false) (Option.some.inj (hf.sv hx)).symm rfl h)
    · rename_i p d hx; exact of_PV hf (s_not hf.toFitsE e (Option.some.inj (hf.sv hx)).symm rfl h)
    · rename_i p d hx; exact of_PV hf (s_not hf.toFitsE e (Option.some.inj (hf.sv hx)).symm (by simp [conc]) h)
    · rename_i b hx; exact of_PV hf (s_not hf.toFitsE e (Option.some.inj (hf.sv hx)).symm (by cases b <;> simp [conc]) h)
    · exact h.elim
  · rename_i t x e
    split at h
    · rename_i i off sh hx hsh
      split at h
      · rename_i cs hl
        split at h
        · rename_i hb; exact of_LV hf (s_loadLoc hf.toFitsE e hx hsh hl (Nat.le_of_ble_eq_true hb) h)
        · exact h.elim
      · exact h.elim
    · rename_i p sh hx hsh; exact of_LV hf (s_loadPtr hf.toFitsE e hx hsh h)
    · exact h.elim
  · rename_i t x y e
    split at h
    · rename_i i off v sh hx hy hsh
      split at h
      · rename_i cs hl hw hsz h1
        split at h
        · rename_i hb; exact s_storeLoc hf e hx hy hsh hl hw (Nat.eq_of_beq_eq_true hsz) h1 (Nat.le_of_ble_eq_true hb) h
        · exact h.elim
      · exact h.elim
    · rename_i p v sh hx hy hsh
      split at h
      · rename_i hsz; exact s_storePtr hf e hx hy hsh (Nat.eq_of_beq_eq_true hsz) h
      · exact h.elim
    · exact h.elim
  · rename_i t e
    split at h
    · rename_i cs d hz hd; exact s_alloc hf e hd hz h
    · exact h.elim
  · rename_i t x e
    split at h
    · rename_i v d hx hd; exact s_box hf e hd hx h
    · exact h.elim
  · rename_i x e
    split at h
    · rename_i i off hx
      obtain ⟨b, hb, hev⟩ := conc_loc hf.toFitsE hx
      refine of_value hf (y := .loc i off) (v := .pointer (some ⟨b, off, none⟩)) ?_ (by simp [conc, hb]) h
      unfold execOp; rw [e]; simp only [hev]; rfl
    · rename_i p hx
      refine of_value hf (y := .ptr p) (v := .pointer (some p)) ?_ rfl h
      unfold execOp; rw [e]; simp only [conc_ptr hf.toFitsE hx]; rfl
    · rename_i q hx
      obtain ⟨p, rfl, hK⟩ := h
      refine of_value hf (y := .ptr p) (v := .pointer (some p)) ?_ rfl hK
      unfold execOp; rw [e]; simp only [conc_v hf.toFitsE hx]; rfl
    · exact h.elim
  · rename_i t x f e
    split at h
    · rename_i i off n hx hn; exact of_PV hf (s_fieldLoc hf.toFitsE e hn hx h)
    · rename_i p n hx hn; exact of_PV hf (s_fieldPtr hf.toFitsE e hn hx h)
    · exact h.elim
  · rename_i t x ix e
    split at h
    · rename_i e' hu
      split at h
      · rename_i ad n c k i sz hx hi hsz; exact of_PV hf (s_indexSlice hf.toFitsE e hu hx hi hsz h)
      · exact h.elim
    · rename_i len e' hu
      split at h
      · rename_i j off k m sz hx hi hsz
        split at h
        · rename_i hm
          obtain ⟨b, hb, hev⟩ := conc_loc hf.toFitsE hx
          have hlt : m < len := by simpa using hm
          have hr := s_indexArr (C := C) hf.toFitsE e hu hev hi hsz ⟨by simp, by simpa using hlt⟩ w
          refine of_value hf (y := .loc j (off + m * (sz + 1))) hr ?_ h
          have : (⟨b, off, none⟩ : Addr).add (m * (sz + 1)) = ⟨b, off + m * (sz + 1), none⟩ := by unfold Addr.add; split <;> simp_all
          simp [conc, hb, this]
        · exact h.elim
      · rename_i p k i sz hx hi hsz
        obtain ⟨h2, hb, hK⟩ := h
        exact of_value hf (y := .ptr _) (s_indexArr (C := C) hf.toFitsE e hu (conc_ptr hf.toFitsE hx) hi hsz hb w) rfl hK
      · exact h.elim
    · exact h.elim
  · rename_i c e; exact s_call hG hf e h
  · rename_i hnot
    by_cases hsel : ∃ cs b, o.op = .select cs b
    · obtain ⟨cs, b, e⟩ := hsel
      exfalso
      unfold other plainVal at h
      have h1 : notSelect o.op = false := by rw [e]; rfl
      have h2 : semOf s o = none := by unfold semOf; rw [e]
      rw [h1, h2] at h
      split at h
      · rename_i h3; split at h3 <;> simp_all
      · split at h <;> simp_all
    · exact hoth (fun cs b e => hsel ⟨cs, b, e⟩) h

end
end Go.Proofs.YtgfafpiinencpaaGreat
