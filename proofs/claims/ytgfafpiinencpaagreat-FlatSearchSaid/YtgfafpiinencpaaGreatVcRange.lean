/- A range over a function: the rule; its rounds' bodies. -/
import Derived.Test.YtgfafpiinencpaaGreatVcGood
import Derived.RangeFuncIn
namespace Go.Proofs.YtgfafpiinencpaaGreat
open Go.RowKit

def noDefer (o : Oper) : Bool := match o.op with
  | .defer _ => false
  | _ => true

/-- Code that a round's body may be, here. -/
def plainC : Code → Bool
  | .skip => true
  | .seq a b => plainC a && plainC b
  | .cond _ a b => plainC a && plainC b
  | .block _ b => plainC b
  | .region _ ops false => ops.toList.all noDefer
  | _ => false

section
variable {C : Cfg} {wrt : Nat → Bool} {s : St} {u : H} {bs : List Nat} {a : Act} {w : World}

set_option maxHeartbeats 1000000 in
theorem code_soundIn (hG : Good C) (ro : Option Nat) : ∀ (c : Code), plainC c = true → ∀ (p : Nat) (wrt : Nat → Bool) (Q : Exit → St → H → Prop) (s : St) (u : H), WPc C [] c p wrt Q s u →
    ∀ (bs : List Nat) (a : Act) (w : World), Fits s bs u a w → c.wpIn (Fr ro) 0 C.P (Post wrt s bs u a w (codeDsts c) Q) a w := by
  intro c
  induction c with
  | skip =>
    intro _ p wrt Q s u h bs a w hf
    exact wpIn_skip ⟨fun _ => Exit.noConfusion, s, u, bs, h, hf, Step.refl hf.sub, Kept.refl _ _, fun _ _ => rfl⟩
  | region id ops dr =>
    intro hpl p wrt Q s u h bs a w hf
    cases dr with
    | true => simp [plainC] at hpl
    | false =>
      simp only [plainC, List.all_eq_true] at hpl
      simp only [WPc] at h
      refine wpIn_region_list (seq_soundIn hG ro (ds := memB (codeDsts (.region id ops false))) ops.toList s u bs a w h hf (.inr fun o ho c hc => ?_) (fun o ho d hd => dst_mem ho hd) ?_)
      · have := hpl o ho
        unfold noDefer at this
        rw [hc] at this; cases this
      · intro s' u' bs' a' w' hk hf' hs hkp ha
        exact ⟨fun _ => Exit.noConfusion, s', u', bs', hk, hf', hs, hkp, ha⟩
  | seq x y ihx ihy =>
    intro hpl p wrt Q s u h bs a w hf
    have hdx : ∀ d, memB (codeDsts (.seq x y)) d = false → memB (codeDsts x) d = false := fun d h => by simp only [codeDsts, memB_append, Bool.or_eq_false_iff] at h; exact h.1
    have hdy : ∀ d, memB (codeDsts (.seq x y)) d = false → memB (codeDsts y) d = false := fun d h => by simp only [codeDsts, memB_append, Bool.or_eq_false_iff] at h; exact h.2
    simp only [plainC, Bool.and_eq_true] at hpl
    simp only [WPc, annAt] at h
    · refine wpIn_seq (Code.wpIn_mono ?_ (ihx hpl.1 _ _ _ s u h bs a w hf))
      intro e a' w' hp
      obtain ⟨hne, s', u', bs', hq, hf', hs, hk, ha⟩ := hp
      cases e with
      | normal =>
        refine Code.wpIn_mono ?_ (ihy hpl.2 _ _ _ s' u' hq bs' a' w' hf')
        intro e2 a2 w2 hp2
        exact Post.next hs hk (fun d hd => ha d (hdx d hd)) (hp2.mono hdy)
      | exit id => exact ⟨hne, s', u', bs', hq, hf', hs, hk, fun d hd => ha d (hdx d hd)⟩
      | goto l => exact ⟨hne, s', u', bs', hq, hf', hs, hk, fun d hd => ha d (hdx d hd)⟩
      | ret => exact ⟨hne, s', u', bs', hq, hf', hs, hk, fun d hd => ha d (hdx d hd)⟩
      | panic c => exact absurd rfl (hne c)
      | outgrown => exact ⟨hne, s', u', bs', hq, hf', hs, hk, fun d hd => ha d (hdx d hd)⟩
  | cond c x y ihx ihy =>
    intro hpl p wrt Q s u h bs a w hf
    simp only [plainC, Bool.and_eq_true] at hpl
    have hdx : ∀ d, memB (codeDsts (.cond c x y)) d = false → memB (codeDsts x) d = false := fun d h => by simp only [codeDsts, memB_append, Bool.or_eq_false_iff] at h; exact h.1
    have hdy : ∀ d, memB (codeDsts (.cond c x y)) d = false → memB (codeDsts y) d = false := fun d h => by simp only [codeDsts, memB_append, Bool.or_eq_false_iff] at h; exact h.2
    have hx : ∀ (st : St), a.eval c = .bool true → Fits st bs u a w → (st.loc = s.loc ∧ st.n = s.n) → WPc C [] x (2 * p) wrt Q st u → (Code.cond c x y).wpIn (Fr ro) 0 C.P (Post wrt s bs u a w (codeDsts (.cond c x y)) Q) a w := by
      intro st hc hfs hsn hw
      refine wpIn_cond_true hc (Code.wpIn_mono ?_ (ihx hpl.1 _ _ _ st u hw bs a w hfs))
      intro e a' w' hp
      exact Post.next (Step.refl hf.sub) ⟨hsn.2, by rw [hsn.1]; exact Nat.le_refl _, fun i cs e _ => by rw [hsn.1]; exact e⟩ (fun _ _ => rfl) (hp.mono hdx)
    have hy : ∀ (st : St), a.eval c = .bool false → Fits st bs u a w → (st.loc = s.loc ∧ st.n = s.n) → WPc C [] y (2 * p + 1) wrt Q st u → (Code.cond c x y).wpIn (Fr ro) 0 C.P (Post wrt s bs u a w (codeDsts (.cond c x y)) Q) a w := by
      intro st hc hfs hsn hw
      refine wpIn_cond_false hc (Code.wpIn_mono ?_ (ihy hpl.2 _ _ _ st u hw bs a w hfs))
      intro e a' w' hp
      exact Post.next (Step.refl hf.sub) ⟨hsn.2, by rw [hsn.1]; exact Nat.le_refl _, fun i cs e _ => by rw [hsn.1]; exact e⟩ (fun _ _ => rfl) (hp.mono hdy)
    have hsome : ∀ v, s.sv c = some v → ∀ t, c = .tmp t → (look s.env t).isSome = true := fun v hv t ht => by subst ht; simp only [St.sv] at hv; rw [hv]; rfl
    simp only [WPc] at h
    split at h
    · rename_i hc; exact hx s (Option.some.inj (hf.sv hc)).symm hf ⟨rfl, rfl⟩ h
    · rename_i hc; exact hy s (Option.some.inj (hf.sv hc)).symm hf ⟨rfl, rfl⟩ h
    · rename_i q d hc
      have hev := (Option.some.inj (hf.sv hc)).symm
      by_cases hq : q
      · have e1 : a.eval c = .bool true := by rw [hev]; simp [hq]
        obtain ⟨h1, h2⟩ := tell_fits (x := .tt) hf (by rw [e1]; rfl) (hsome _ hc)
        exact hx _ e1 h1 h2 (h.1 hq)
      · have e1 : a.eval c = .bool false := by rw [hev]; simp [hq]
        obtain ⟨h1, h2⟩ := tell_fits (x := .ff) hf (by rw [e1]; rfl) (hsome _ hc)
        exact hy _ e1 h1 h2 (h.2 hq)
    · rename_i q d hc
      have hev := (Option.some.inj (hf.sv hc)).symm
      by_cases hq : q
      · have e1 : a.eval c = .bool false := by rw [hev]; simp [hq]
        obtain ⟨h1, h2⟩ := tell_fits (x := .ff) hf (by rw [e1]; rfl) (hsome _ hc)
        exact hy _ e1 h1 h2 (h.2 hq)
      · have e1 : a.eval c = .bool true := by rw [hev]; simp [hq]
        obtain ⟨h1, h2⟩ := tell_fits (x := .tt) hf (by rw [e1]; rfl) (hsome _ hc)
        exact hx _ e1 h1 h2 (h.1 hq)
    · rename_i b hc
      have hev := (Option.some.inj (hf.sv hc)).symm
      cases b with
      | true =>
        obtain ⟨h1, h2⟩ := tell_fits (x := .tt) hf (by rw [hev]; rfl) (hsome _ hc)
        exact hx _ hev h1 h2 (h.1 rfl)
      | false =>
        obtain ⟨h1, h2⟩ := tell_fits (x := .ff) hf (by rw [hev]; rfl) (hsome _ hc)
        exact hy _ hev h1 h2 (h.2 rfl)
    · exact h.elim
  | block id b ih =>
    intro hpl p wrt Q s u h bs a w hf
    simp only [plainC] at hpl
    simp only [WPc] at h
    refine wpIn_block (Code.wpIn_mono ?_ (ih hpl _ _ _ s u h bs a w hf))
    intro e a' w' hp
    obtain ⟨hne, s', u', bs', hq, hf', hs, hk, ha⟩ := hp
    cases e with
    | exit j =>
      simp only at hq
      simp only [Exit.inBlock]
      split at hq
      · rename_i hj
        have := Nat.eq_of_beq_eq_true hj
        subst this
        rw [if_pos rfl]
        exact ⟨fun _ => Exit.noConfusion, s', u', bs', hq, hf', hs, hk, ha⟩
      · rename_i hj
        rw [if_neg (fun e => by subst e; rw [Nat.beq_refl] at hj; cases hj)]
        exact ⟨hne, s', u', bs', hq, hf', hs, hk, ha⟩
    | normal => exact ⟨hne, s', u', bs', hq, hf', hs, hk, ha⟩
    | goto l => exact ⟨hne, s', u', bs', hq, hf', hs, hk, ha⟩
    | ret => exact ⟨hne, s', u', bs', hq, hf', hs, hk, ha⟩
    | panic c => exact absurd rfl (hne c)
    | outgrown => exact ⟨hne, s', u', bs', hq, hf', hs, hk, ha⟩
  | label l => intro h; simp [plainC] at h
  | ret => intro h; simp [plainC] at h
  | exit id => intro h; simp [plainC] at h
  | goto l => intro h; simp [plainC] at h
  | refuse r => intro h; simp [plainC] at h
  | rangeFunc f ps x y => intro h; simp [plainC] at h
  | scope b ih => intro h; simp [plainC] at h
  | loop b ih => intro h; simp [plainC] at h

end

/-- An iterator's contract: it hands over just these, one by one, to whatever goes on each time. -/
def Iter {α : Type} (P : Program) (fv : Value) (enc : α → Value) (xs : List α) (u : H) : Prop :=
  ∀ (yv : Value) (J : Nat → H → Prop), (∀ i v, J i v → u.le v) →
    (∀ i y v (K : Bool → H → Prop), xs[i]? = some y → J i v → (∀ v', J (i + 1) v' → K true v') → ClR P yv #[enc y] [.one .bool] v K) →
    ∀ v (K : H → Prop), J 0 v → (∀ v', J xs.length v' → K v') → ClV P fv #[yv] [] v K

/-- A body's promise, in a round: x: the loop's variable, y: what is handed over. -/
def RoundOk (P : Program) (n : Nat) (assign body : Code) (env : List (Nat × Value)) (x : Nat) (y : Value) (v : H) (J : H → Prop) : Prop :=
  ∀ l a w, a.tmps.size = n → (∀ p ∈ env, p.1 ≠ x → a.tmps[p.1]? = some p.2) → a.tmps[x]? = some y → a.defers = [] → Sub v w →
    assign.wpIn (Fr (some l)) 0 P (Exit.then (fun a1 w1 => ∃ v1, Step v [] w v1 [] w1 ∧ ∀ w2, Sub v1 w2 →
      body.wpIn (Fr (some l)) 0 P (fun e _ w3 => e = .normal ∧ ∃ v2, J v2 ∧ Step v1 [] w2 v2 [] w3) a1 w2) (fun _ _ _ => False)) a w

theorem H.ins_le {u v : H} (h : u.le v) (b : Nat) (o : Obj) : (u.ins b o).le (v.ins b o) := by
  intro x y e
  unfold H.ins at e ⊢
  split at e
  · rename_i hx; rw [if_pos hx]; exact e
  · rename_i hx; rw [if_neg hx]; exact h x y e

theorem H.le_of_ins {v : H} {b : Nat} {o : Obj} (h : v b = none) : v.le (v.ins b o) := H.le_ins o h

theorem RgS.intro {P : Program} {α : Type} {t x n : Nat} {assign body : Code} {env : List (Nat × Value)} {u : H} {K : Nat → H → Prop} {enc : α → Value} {xs : List α} {fv : Value} {ub : H} (hub : ub.le u)
    (hf : ∀ f args w, (∃ fn, P.funcs[f]? = some fn ∧ fn.body.isSome = true) → (callFunc f args).run P w = .ok (.enter f args) w) (hg : (t, fv) ∈ env) (hx : x < n)
    (hit : ∀ u0, ub.le u0 → Iter P fv enc xs u0) (J : Nat → H → Prop) (h0 : J 0 u) (hle : ∀ i v, J i v → ub.le v)
    (hbody : ∀ i y v, xs[i]? = some y → J i v → RoundOk P n assign body env x (enc y) v (J (i + 1)))
    (hK : ∀ v D, J xs.length v → v D = none → K D (v.ins D (.deferred (some [])))) : RgS P (.rangeFunc (.tmp t) #[x] assign body) n env u K := by
  intro a w hsz henv hdef hsub
  refine (wpIn_wide (n := 0)).1 (wpIn_rangeFunc ?_)
  intro fn _
  have hev : a.eval (.tmp t) = fv := by
    simp only [Act.eval]; rw [Array.getD_eq_getD_getElem?, henv _ hg]; rfl
  obtain ⟨rec, hrec⟩ : ∃ rec : LoopState → Loop, rec = fun st => { state := st, pending := none, fn, tmps := a.tmps, params := #[x], assign, body, defers := w.heap.size } := ⟨_, rfl⟩
  obtain ⟨W1, hW1⟩ : ∃ W1, (w.alloc (.deferred (some []))).alloc (.loop (rec .ready)) = W1 := ⟨_, rfl⟩
  have hsz1 : W1.heap.size = w.heap.size + 2 := by rw [← hW1]; simp
  have hL1 : W1.heap[w.heap.size + 1]? = some (.loop (rec .ready)) := by
    rw [← hW1]; have := World.alloc_heap_new (w.alloc (.deferred (some []))) (.loop (rec .ready)); rwa [World.size_alloc] at this
  have hK1 : W1.heap[w.heap.size]? = some (.deferred (some [])) := by
    rw [← hW1]; exact (Below.heap_alloc _ _ _ (by simp)).trans (World.alloc_heap_new w _)
  have hold : ∀ b, b < w.heap.size → W1.heap[b]? = w.heap[b]? := fun b hb => by
    rw [← hW1]; exact (Below.heap_alloc _ _ _ (by simp; omega)).trans (Below.heap_alloc _ _ _ hb)
  have hlu : u (w.heap.size + 1) = none := hsub.none (by omega)
  have hDu : u w.heap.size = none := hsub.none (Nat.le_refl _)
  have hlb : ub (w.heap.size + 1) = none := by
    cases hx : ub (w.heap.size + 1) with
    | none => rfl
    | some o => rw [hub _ _ hx] at hlu; cases hlu
  have hule : ub.le (ub.ins (w.heap.size + 1) (.loop (rec .ready))) := H.le_ins _ hlb
  have hsub1 : Sub (u.ins (w.heap.size + 1) (.loop (rec .ready))) W1 := by
    intro b o hb
    unfold H.ins at hb
    split at hb
    · rename_i hbl; subst hbl; cases hb; exact hL1
    · have := hsub b o hb
      have hlt := hsub.lt hb
      rw [hold b hlt]; exact this
  -- the iterator's call
  have hcl := hit _ hule (.func (.yield (w.heap.size + 1)) #[] #[])
    (fun i v => ∃ v0, v = v0.ins (w.heap.size + 1) (.loop (rec .ready)) ∧ v0 (w.heap.size + 1) = none ∧ v0 w.heap.size = none ∧ J i v0)
    (fun i v ⟨v0, hv, _, _, hj⟩ => by rw [hv]; exact H.ins_le (hle i v0 hj) _ _)
    (by
      rintro i y v K' hy ⟨v0, rfl, hl0, hD0, hj⟩ hK'
      refine ⟨_, rfl, fun W hW => ?_⟩
      have hlW : W.heap[w.heap.size + 1]? = some (.loop (rec .ready)) := hW _ _ (H.ins_same _ _ _)
      have hlt : w.heap.size + 1 < W.heap.size := (Array.getElem?_eq_some_iff.1 hlW).1
      have hrun : (Instr.yield (w.heap.size + 1) #[enc y]).run P W = .ok (.round (w.heap.size + 1) fn (a.tmps.setIfInBounds x (enc y)) assign body) W := by
        have := run_yield (P := P) (args := #[enc y]) hlW (by rw [hrec]; rfl)
        rw [hrec] at this
        simpa using this
      have hsv0 : Sub v0 W := hW.mono (H.le_ins _ hl0)
      refine ⟨fn, _, assign, body, hrun, roundIn_of_wpIn trivial ?_⟩
      refine wpIn_mono (hbody i y v0 hy hj (w.heap.size + 1) _ W ?_ ?_ ?_ rfl hsv0) ?_
      · simpa using hsz
      · intro p hp hpx
        show (a.tmps.setIfInBounds x (enc y))[p.1]? = _
        rw [Array.getElem?_setIfInBounds_ne (Ne.symm hpx)]
        exact henv p hp
      · show (a.tmps.setIfInBounds x (enc y))[x]? = _
        rw [Array.getElem?_setIfInBounds_self]
        simp [hsz, hx]
      · intro e a1 w1 hp
        cases e with
        | normal =>
          obtain ⟨v1, hs1, hb⟩ := hp
          have hlW1 : w1.heap[w.heap.size + 1]? = some (.loop (rec .ready)) := (hs1.rest _ hlt hl0 (by simp)).trans hlW
          have hlt1 : w.heap.size + 1 < w1.heap.size := (Array.getElem?_eq_some_iff.1 hlW1).1
          have hl1 : v1 (w.heap.size + 1) = none := hs1.honest _ hlt hl0
          have hD1 : v1 w.heap.size = none := hs1.honest _ (by omega) hD0
          refine ⟨_, run_beginRound hlW1 (by rw [hrec]), wpIn_mono (hb _ ?_) ?_⟩
          · intro b o hbo
            have hne : b ≠ w.heap.size + 1 := fun e => by rw [e, hl1] at hbo; cases hbo
            exact (World.putObj_heap_other hne).trans (hs1.sub b o hbo)
          · rintro e a2 w3 ⟨rfl, v2, hj2, hs2⟩
            have hlW2 : (w1.putObj (w.heap.size + 1) (.loop { rec .ready with state := .busy })).heap[w.heap.size + 1]? = some (.loop { rec .ready with state := .busy }) := World.putObj_heap_same hlt1
            have hlW3 : w3.heap[w.heap.size + 1]? = some (.loop { rec .ready with state := .busy }) := (hs2.rest _ (by simpa using hlt1) hl1 (by simp)).trans hlW2
            have hlt3 : w.heap.size + 1 < w3.heap.size := (Array.getElem?_eq_some_iff.1 hlW3).1
            have hl2 : v2 (w.heap.size + 1) = none := hs2.honest _ (by simpa using hlt1) hl1
            have hend := run_endRound (P := P) none hlW3
            have erec : ({ { rec .ready with state := LoopState.busy } with state := if (none : Option Code).isNone then .ready else .done, pending := none } : Loop) = rec .ready := by rw [hrec]; rfl
            rw [erec] at hend
            refine ⟨_, _, hend, .bool true, v2.ins (w.heap.size + 1) (.loop (rec .ready)), rfl, ⟨[.bool true], .cons (t := .bool) true .nil, rfl, ?_⟩, ?_⟩
            · exact hK' _ ⟨v2, rfl, hl2, hs2.honest _ (by have := hs1.size; simp; omega) hD1, hj2⟩
            · refine ⟨fun b o hbo => ?_, hs2.os.trans hs1.os, hs2.tape.trans hs1.tape, hs2.output.trans hs1.output, Nat.le_trans hs1.drawn hs2.drawn, ?_, fun b hb hbn _ => ?_, fun b hb hbn => ?_, [], by simp, by simp⟩
              · unfold H.ins at hbo
                split at hbo
                · rename_i hbl; subst hbl; cases hbo; exact World.putObj_heap_same hlt3
                · rename_i hbl; rw [World.putObj_heap_other hbl]; exact hs2.sub b o hbo
              · have h1 := hs1.size
                have h2 := hs2.size
                simp at h2 ⊢
                omega
              · have hne : b ≠ w.heap.size + 1 := fun e => by rw [e, H.ins_same] at hbn; cases hbn
                rw [H.ins_other _ _ hne] at hbn
                have hb1 : b < w1.heap.size := Nat.lt_of_lt_of_le hb hs1.size
                rw [World.putObj_heap_other hne, hs2.rest b (by simpa using hb1) (hs1.honest b hb hbn) (by simp), World.putObj_heap_other hne]
                exact hs1.rest b hb hbn (by simp)
              · have hne : b ≠ w.heap.size + 1 := fun e => by rw [e, H.ins_same] at hbn; cases hbn
                rw [H.ins_other _ _ hne] at hbn ⊢
                exact hs2.honest b (by have := hs1.size; simp; omega) (hs1.honest b hb hbn)
        | _ => exact hp.elim)
    _ (fun v' => ∃ v0, v' = v0.ins (w.heap.size + 1) (.loop (rec .ready)) ∧ v0 (w.heap.size + 1) = none ∧ v0 w.heap.size = none ∧ J xs.length v0) ⟨u, rfl, hlu, hDu, h0⟩ (fun _ h => h)
  obtain ⟨gf, cap, hfv, hbf, hcl⟩ := hcl
  rw [hfv] at hev
  refine ⟨w.heap.size + 1, [{ target := .collected w.heap.size, args := #[] }], W1, { target := .fn (.func gf) cap, args := #[.func (.yield (w.heap.size + 1)) #[] #[]] }, W1, gf,
    #[.func (.yield (w.heap.size + 1)) #[] #[]] ++ cap, W1, ?_, ?_, fun _ _ => trivial, ?_, fun h => by simp [Fence.wide] at h, ?_⟩
  · rw [← hW1, hrec]; exact run_enterLoop_outer _ _ _ _ _
  · simp only [resolve, hev]
    simp [go_sem]
  · simp [invoke, go_sem, hf gf _ _ hbf]
  · refine callsIn_wide.2 ((hcl W1 hsub1).mono ?_)
    rintro e w3 ⟨v, u', rfl, ⟨vs, hk, rfl, hc⟩, hs⟩
    cases hk
    obtain ⟨v0, rfl, hl0, hD0, hj⟩ : ∃ v0 : H, u' = v0.ins (w.heap.size + 1) (.loop (rec .ready)) ∧ v0 (w.heap.size + 1) = none ∧ v0 w.heap.size = none ∧ J xs.length v0 := hc
    have hlW3 : w3.heap[w.heap.size + 1]? = some (.loop (rec .ready)) := hs.sub _ _ (H.ins_same _ _ _)
    have hDW3 : w3.heap[w.heap.size]? = some (.deferred (some [])) := by
      rw [hs.rest _ (by omega) (by rw [H.ins_other _ _ (by omega)]; exact hDu) (by simp)]; exact hK1
    have hend : (Instr.endLoop (w.heap.size + 1)).run P w3 = .ok none (w3.putObj (w.heap.size + 1) (.loop { rec .ready with state := .exhausted })) := by
      have := run_endLoop (P := P) hlW3 (by rw [hrec]; simp)
      rw [this]
      rw [hrec]
    refine ⟨none, _, hend, rfl, rfl, w.heap.size, _, ?_, hK v0 w.heap.size hj hD0, ?_⟩
    · simp [hdef, dfsOf]
    · have hs3 := hs.size
      refine ⟨fun b o hbo => ?_, ?_, ?_, ?_, ?_, by simp; omega, fun b hb hbn _ => ?_, fun b hb hbn => ?_, [], by simp, by simp⟩
      · unfold H.ins at hbo
        split at hbo
        · rename_i hbl; subst hbl; cases hbo
          rw [World.putObj_heap_other (by omega)]; exact hDW3
        · have hne : b ≠ w.heap.size + 1 := fun e => by rw [e, hl0] at hbo; cases hbo
          rw [World.putObj_heap_other hne]
          exact hs.sub b o (by rw [H.ins_other _ _ hne]; exact hbo)
      · exact hs.os.trans (by rw [← hW1]; rfl)
      · exact hs.tape.trans (by rw [← hW1]; rfl)
      · exact hs.output.trans (by rw [← hW1]; rfl)
      · exact Nat.le_trans (by rw [← hW1]; exact Nat.le_refl _) hs.drawn
      · have hne : b ≠ w.heap.size + 1 := by omega
        rw [World.putObj_heap_other hne, hs.rest b (by omega) (by rw [H.ins_other _ _ hne]; exact hbn) (by simp)]
        exact hold b hb
      · have hne : b ≠ w.heap.size + 1 := by omega
        have := hs.honest b (by omega) (by rw [H.ins_other _ _ hne]; exact hbn)
        rw [H.ins_other _ _ hne] at this
        rw [H.ins_other _ _ (by omega)]; exact this

/-- A round's body by its formula. -/
theorem RoundOk.of {C : Cfg} (hG : Good C) {n : Nat} {assign body : Code} {env : List (Nat × Value)} {x : Nat} {y : Value} {v : H} {J : H → Prop} (ha : plainC assign = true) (hb : plainC body = true)
    (env' : List (Nat × SV)) (henv : ∀ p ∈ env', ∃ z, conc [] p.2 = some z ∧ ((p.1 = x ∧ z = y) ∨ p.1 ≠ x ∧ (p.1, z) ∈ env))
    (h : WPc C [] assign 1 (fun _ => true) (fun e s u => e = .normal ∧ s.loc = [] ∧ WPc C [] body 1 (fun _ => true) (fun e _ u => e = .normal ∧ J u) s u) { n := n, env := env', loc := [] } v) :
    RoundOk C.P n assign body env x y v J := by
  intro l a w hsz he hx hd hs
  have hf : Fits { n := n, env := env', loc := [] } [] v a w := by
    refine ⟨⟨hd, hsz, fun p hp => ?_⟩, rfl, fun i cs e => by simp at e, by simp, by simp, hs⟩
    obtain ⟨z, h1, h2⟩ := henv p hp
    refine ⟨z, h1, ?_⟩
    rcases h2 with ⟨h3, rfl⟩ | ⟨h3, h4⟩
    · rw [h3]; exact hx
    · exact he _ h4 h3
  refine wpIn_mono (code_soundIn hG (some l) assign ha 1 _ _ _ v h [] a w hf) ?_
  rintro e a1 w1 ⟨_, s', u', bs', ⟨rfl, hloc, hb'⟩, hf', hst, _, _⟩
  have hbs : bs' = [] := by have := hf'.len; rw [hloc] at this; simpa using this
  subst hbs
  refine ⟨u', hst, fun w2 hw2 => ?_⟩
  have hf2 : Fits s' [] u' a1 w2 := ⟨hf'.toFitsE, hf'.len, fun i cs e => by rw [hloc] at e; simp at e, by simp, by simp, hw2⟩
  refine wpIn_mono (code_soundIn hG (some l) body hb 1 _ _ s' u' hb' [] a1 w2 hf2) ?_
  rintro e a2 w3 ⟨_, s2, u2, bs2, ⟨rfl, hj⟩, hf3, hst2, _, _⟩
  exact ⟨rfl, u2, hj, hst2.forget⟩

def rgA : Code → Code
  | .rangeFunc _ _ x _ => x
  | _ => .skip
def rgB : Code → Code
  | .rangeFunc _ _ _ x => x
  | _ => .skip

theorem RgS.code {P : Program} {c : Code} {t x n : Nat} {env : List (Nat × Value)} {u : H} {K : Nat → H → Prop} (hc : c = .rangeFunc (.tmp t) #[x] (rgA c) (rgB c)) (h : RgS P (.rangeFunc (.tmp t) #[x] (rgA c) (rgB c)) n env u K) : RgS P c n env u K := by
  rw [hc]; exact h

end Go.Proofs.YtgfafpiinencpaaGreat
