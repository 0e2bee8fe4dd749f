/- A region: its operations one behind the other, or in whatever order its edges allow. -/
import Derived.Test.YtgfafpiinencpaaGreatVcStepT
namespace Go.Proofs.YtgfafpiinencpaaGreat

/-! ### guards -/

/-- Is an operation wanted? Where that is not known both ways are gone, the slot told. -/
def guardW (s : St) (all : Array Oper) (o : Oper) (f : St → Bool → Prop) : Prop :=
  match o.guard with
  | none => f s true
  | some (j, want) => match all[j]? with
    | some oj => match oj.dst with
      | some d => match look s.env d with
        | some .tt => f s want
        | some .ff => f s (!want)
        | some (.dec p _) => (p → f (s.put (some d) .tt) want) ∧ (¬ p → f (s.put (some d) .ff) (!want))
        | some (.ndec p _) => (¬ p → f (s.put (some d) .tt) want) ∧ (p → f (s.put (some d) .ff) (!want))
        | some (.v (.bool b)) => (b = true → f (s.put (some d) .tt) want) ∧ (b = false → f (s.put (some d) .ff) (!want))
        | some (.v (.tuple _)) => f s false
        | _ => False
      | none => False
    | none => False

theorem FitsE.tell {s : St} {bs : List Nat} {a : Act} (h : FitsE s bs a) {d : Nat} {x : SV} {v : Value} (hc : conc bs x = some v) (ht : a.tmps[d]? = some v) : FitsE (s.put (some d) x) bs a := by
  have hlt : d < s.n := by
    rw [← h.n]
    rcases Nat.lt_or_ge d a.tmps.size with k | k
    · exact k
    · rw [Array.getElem?_eq_none k] at ht; cases ht
  have e1 : s.put (some d) x = { s with env := (d, x) :: del s.env d } := by
    have hb : Nat.blt d s.n = true := by simpa using hlt
    simp only [St.put, hb]
  rw [e1]
  refine ⟨h.defers, h.n, ?_⟩
  intro p hp
  cases hp with
  | head => exact ⟨v, hc, ht⟩
  | tail _ hp => exact h.env p (del_mem hp).1

/-- s' knows of some slots more than s. -/
structure Told (s s' : St) (bs : List Nat) (a : Act) : Prop where
  e : FitsE s' bs a
  loc : s'.loc = s.loc
  n : s'.n = s.n

theorem guardW_spec {s : St} {all : Array Oper} {o : Oper} {f : St → Bool → Prop} (h : guardW s all o f) {bs : List Nat} {a : Act} (hf : FitsE s bs a) :
    ∃ s' want, f s' want ∧ Told s s' bs a ∧ Region.wanted o (yielded all a.tmps) = want := by
  unfold guardW at h
  split at h
  · rename_i e
    exact ⟨s, true, h, ⟨hf, rfl, rfl⟩, by simp [Region.wanted, e]⟩
  · rename_i j want e
    split at h
    · rename_i oj hj
      split at h
      · rename_i d hd
        have key : ∀ x, look s.env d = some x → ∀ b : Bool, conc bs x = some (.bool b) → a.tmps[d]? = some (.bool b) ∧ Region.wanted o (yielded all a.tmps) = (if b then want else !want) := by
          intro x hx b hb
          obtain ⟨v, h1, h2⟩ := hf.env _ (look_mem hx)
          simp only at h1 h2
          rw [hb] at h1; cases h1
          refine ⟨h2, ?_⟩
          simp only [Region.wanted, e, yielded, hj, Option.bind_some, hd, h2]
          cases b <;> cases want <;> rfl
        split at h
        · rename_i hl
          exact ⟨s, want, h, ⟨hf, rfl, rfl⟩, (key _ hl true rfl).2⟩
        · rename_i hl
          exact ⟨s, !want, h, ⟨hf, rfl, rfl⟩, (key _ hl false rfl).2⟩
        · rename_i p dp hl
          by_cases hp : p
          · have := key _ hl true (by simp [conc, hp])
            exact ⟨_, want, h.1 hp, ⟨hf.tell (x := .tt) rfl this.1, (put_loc _ _ _).1, (put_loc _ _ _).2⟩, this.2⟩
          · have := key _ hl false (by simp [conc, hp])
            exact ⟨_, !want, h.2 hp, ⟨hf.tell (x := .ff) rfl this.1, (put_loc _ _ _).1, (put_loc _ _ _).2⟩, this.2⟩
        · rename_i p dp hl
          by_cases hp : p
          · have := key _ hl false (by simp [conc, hp])
            exact ⟨_, !want, h.2 hp, ⟨hf.tell (x := .ff) rfl this.1, (put_loc _ _ _).1, (put_loc _ _ _).2⟩, this.2⟩
          · have := key _ hl true (by simp [conc, hp])
            exact ⟨_, want, h.1 hp, ⟨hf.tell (x := .tt) rfl this.1, (put_loc _ _ _).1, (put_loc _ _ _).2⟩, this.2⟩
        · rename_i b hl
          cases b with
          | true =>
            have := key _ hl true rfl
            exact ⟨_, want, h.1 rfl, ⟨hf.tell (x := .tt) rfl this.1, (put_loc _ _ _).1, (put_loc _ _ _).2⟩, this.2⟩
          | false =>
            have := key _ hl false rfl
            exact ⟨_, !want, h.2 rfl, ⟨hf.tell (x := .ff) rfl this.1, (put_loc _ _ _).1, (put_loc _ _ _).2⟩, this.2⟩
        · rename_i vs hl
          obtain ⟨v, h1, h2⟩ := hf.env _ (look_mem hl)
          simp only at h1 h2
          simp only [conc, Option.some.injEq] at h1
          subst h1
          refine ⟨s, false, h, ⟨hf, rfl, rfl⟩, ?_⟩
          simp only [Region.wanted, e, yielded, hj, Option.bind_some, hd, h2]
          rfl
        · exact h.elim
      · exact h.elim
    · exact h.elim

/-! ### what hangs on the slots alone -/

def isPureAt (C : Cfg) (s : St) (o : Oper) : Bool :=
  match o.op with
  | .move _ => true
  | .assign _ => true
  | .pick _ _ _ => true
  | .nilCheck _ => true
  | .fieldAddr _ _ _ => true
  | .indexAddr _ _ _ => true
  | .unOp .not _ _ => true
  | .binOp _ _ _ _ _ => true
  | .load _ _ => false
  | .store _ _ _ => false
  | .alloc _ => false
  | .box _ _ => false
  | .call c => match c.callee with
    | .builtin _ => (plainVal C.P s o).isSome
    | _ => false
  | _ => (plainVal C.P s o).isSome

section
variable {C : Cfg} {wrt : Nat → Bool} {s : St} {o : Oper} {u : H} {K : St → H → Prop} {bs : List Nat} {a : Act} {w : World} {Q : Exit → Act → World → Prop}

theorem other_pure (hf : FitsE s bs a) (hp : (plainVal C.P s o).isSome = true) (h : other C s o u K) : PV C s o u K bs a := by
  unfold other at h
  obtain ⟨v, hv⟩ := Option.isSome_iff_exists.1 hp
  rw [hv] at h
  exact ⟨.v v, v, h, rfl, plainVal_run hf hv⟩

set_option maxHeartbeats 1000000 in
theorem pure_sound (hG : Good C) (hf : FitsE s bs a) (hp : isPureAt C s o = true) (h : stepOp C wrt s o u K) : PV C s o u K bs a := by
  unfold stepOp at h
  split at h
  · rename_i x e; exact s_move hf (.inl e) h
  · rename_i x e; exact s_move hf (.inr e) h
  · rename_i c x y e
    split at h
    · rename_i hc hx; exact s_pick hf e (b := true) (Option.some.inj (hf.sv hc)).symm hx h
    · rename_i hc hy; exact s_pick hf e (b := false) (Option.some.inj (hf.sv hc)).symm hy h
    · rename_i p d y' z' hc hx hy
      have hev := (Option.some.inj (hf.sv hc)).symm
      by_cases hp : p
      · exact s_pick hf e (b := true) (by rw [hev]; simp [hp]) hx (h.1 hp)
      · exact s_pick hf e (b := false) (by rw [hev]; simp [hp]) hy (h.2 hp)
    · rename_i p d y' z' hc hx hy
      have hev := (Option.some.inj (hf.sv hc)).symm
      by_cases hp : p
      · exact s_pick hf e (b := false) (by rw [hev]; simp [hp]) hy (h.2 hp)
      · exact s_pick hf e (b := true) (by rw [hev]; simp [hp]) hx (h.1 hp)
    · exact h.elim
  · rename_i op t x y t' e
    have hno : ∀ hh : other C s o u K, PV C s o u K bs a := by
      intro hh
      by_cases hpv : (plainVal C.P s o).isSome = true
      · exact other_pure hf hpv hh
      · exfalso
        have hn : plainVal C.P s o = none := by
          cases hx : plainVal C.P s o with
          | none => rfl
          | some v => rw [hx] at hpv; simp at hpv
        unfold other at hh
        rw [hn] at hh
        have h2 : semOf s o = none := by unfold semOf; rw [e]
        rw [h2] at hh
        split at hh <;> simp_all
    split at h
    · rename_i k m k' n hx hy
      exact s_binInt hf e hx hy h
    · rename_i p q _ hx hy
      split at h
      · split at h
        · rename_i z hz; exact s_eq hG hf e hx hy hz (.inl ⟨rfl, h⟩)
        · exact h.elim
      · split at h
        · rename_i z hz; exact s_eq hG hf e hx hy hz (.inr ⟨rfl, h⟩)
        · exact h.elim
      · exact hno h
    · exact h.elim
  · rename_i t x e
    split at h
    · rename_i hx; exact s_not hf e (b := true) (Option.some.inj (hf.sv hx)).symm rfl h
    · rename_i hx; exact s_not hf e (b := false) (Option.some.inj (hf.sv hx)).symm rfl h
    · rename_i p d hx; exact s_not hf e (Option.some.inj (hf.sv hx)).symm rfl h
    · rename_i p d hx; exact s_not hf e (Option.some.inj (hf.sv hx)).symm (by simp [conc]) h
    · rename_i b hx; exact s_not hf e (Option.some.inj (hf.sv hx)).symm (by cases b <;> simp [conc]) h
    · exact h.elim
  · rename_i t x e; unfold isPureAt at hp; rw [e] at hp; cases hp
  · rename_i t x y e; unfold isPureAt at hp; rw [e] at hp; cases hp
  · rename_i t e; unfold isPureAt at hp; rw [e] at hp; cases hp
  · rename_i t x e; unfold isPureAt at hp; rw [e] at hp; cases hp
  · rename_i x e
    split at h
    · rename_i i off hx
      obtain ⟨b, hb, hev⟩ := conc_loc hf hx
      refine ⟨.loc i off, .pointer (some ⟨b, off, none⟩), h, by simp [conc, hb], fun w => ?_⟩
      unfold execOp; rw [e]; simp only [hev]; rfl
    · rename_i p hx
      refine ⟨.ptr p, .pointer (some p), h, rfl, fun w => ?_⟩
      unfold execOp; rw [e]; simp only [conc_ptr hf hx]; rfl
    · rename_i q hx
      obtain ⟨p, rfl, hK⟩ := h
      refine ⟨.ptr p, .pointer (some p), hK, rfl, fun w => ?_⟩
      unfold execOp; rw [e]; simp only [conc_v hf hx]; rfl
    · exact h.elim
  · rename_i t x f e
    split at h
    · rename_i i off n hx hn; exact s_fieldLoc hf e hn hx h
    · rename_i p n hx hn; exact s_fieldPtr hf e hn hx h
    · exact h.elim
  · rename_i t x ix e
    split at h
    · rename_i e' hu
      split at h
      · rename_i ad n c k i sz hx hi hsz; exact s_indexSlice hf e hu hx hi hsz h
      · exact h.elim
    · rename_i len e' hu
      split at h
      · rename_i j off k m sz hx hi hsz
        split at h
        · rename_i hm
          obtain ⟨b, hb, hev⟩ := conc_loc hf hx
          have hlt : m < len := by simpa using hm
          have hr := s_indexArr (C := C) hf e hu hev hi hsz ⟨by simp, by simpa using hlt⟩
          refine ⟨.loc j (off + m * (sz + 1)), _, h, ?_, hr⟩
          have : (⟨b, off, none⟩ : Addr).add (m * (sz + 1)) = ⟨b, off + m * (sz + 1), none⟩ := by unfold Addr.add; split <;> simp_all
          simp [conc, hb, this]
        · exact h.elim
      · rename_i p k i sz hx hi hsz
        obtain ⟨h2, hb, hK⟩ := h
        exact ⟨.ptr _, _, hK, rfl, s_indexArr (C := C) hf e hu (conc_ptr hf hx) hi hsz hb⟩
      · exact h.elim
    · exact h.elim
  · rename_i c e
    unfold isPureAt at hp; rw [e] at hp; simp only at hp
    split at hp
    · rename_i b hc
      rw [hc] at h
      split at h
      · exact other_pure hf hp h
      · exact h.elim
    · cases hp
  · rename_i h1 h2 h3 h4 h5 h6 h7 h8 h9 h10 h11 h12 h13
    refine other_pure hf ?_ h
    unfold isPureAt at hp
    split at hp <;> first | exact hp | (rename_i e; exact absurd e (by first | exact h1 _ | exact h2 _ | exact h3 _ _ _ | exact h4 _ _ _ _ _ | exact h5 _ _ | exact h6 _ _ | exact h7 _ _ _ | exact h8 _ | exact h9 _ _ | exact h10 _ | exact h11 _ _ _ | exact h12 _ _ _ | exact h13 _))

end
end Go.Proofs.YtgfafpiinencpaaGreat
