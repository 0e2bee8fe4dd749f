/- A region's formula is sound. -/
import Derived.Test.YtgfafpiinencpaaGreatVcAny
namespace Go.Proofs.YtgfafpiinencpaaGreat

/-- A step where yield may be called, too. -/
def stepY (C : Cfg) (wrt : Nat → Bool) (s : St) (o : Oper) (u : H) (K : St → H → Prop) : Prop :=
  match o.op with
  | .call c => match c.callee with
    | .value (.tmp t) => match vals s c.args, shsOf C.P o.type, look s.env t with
      | some vs, some ss, some (.v fv) => ClY C.P fv vs.toArray ss u (contC s o.dst ss K)
      | _, _, _ => False
    | _ => stepOp C wrt s o u K
  | _ => stepOp C wrt s o u K

def seqW (C : Cfg) (wrt : Nat → Bool) (all : Array Oper) : List Oper → St → H → (St → H → Prop) → Prop
  | [], s, u, K => K s u
  | o :: rest, s, u, K => guardW s all o fun s' want => match want with
    | true => stepY C wrt s' o u fun s'' u' => seqW C wrt all rest s'' u' K
    | false => seqW C wrt all rest (s'.put o.dst (.v undef)) u K

/-- The fence of a frame, or of a round's. -/
abbrev Fr (ro : Option Nat) : Fence := { Fence.wide with round := ro }

theorem wp_to_In {P : Program} {o : Oper} {a : Act} {w : World} {next : Act → World → Prop} {Q : Exit → Act → World → Prop} (ro : Option Nat) (hd : ro = none ∨ ∀ c, o.op ≠ .defer c) (h : o.wp P a w next Q) :
    o.wpIn (Fr ro) 0 P a w next Q := by
  refine ⟨fun _ _ => trivial, ?_⟩
  have e : o.semAt (Fr ro).round a.eval = execOp a.eval o := by
    rcases hd with rfl | hd
    · rfl
    · exact Oper.semAt_eq ro _ _ hd
  rw [e]
  unfold Oper.wp at h
  cases hr : (execOp a.eval o).run P w with
  | ok nx w' =>
    rw [hr] at h
    cases nx with
    | value v => exact h
    | skip => exact h
    | defer d => exact h
    | enter f args => exact ⟨fun hx => by simp [Fr, Fence.wide] at hx, (callsIn_wide (n := 0 - 1)).2 h⟩
    | row row args => exact ⟨fun hx => by simp [Fr, Fence.wide] at hx, fun c cs _ => let ⟨v, w2, hq, hs⟩ := h c cs; ⟨v, w2, hq, stepsIn_wide.2 hs⟩⟩
    | _ => exact h.elim
  | halt z w' =>
    rw [hr] at h
    cases z with
    | panic v => exact h
    | _ => exact h.elim

theorem of_ClR {C : Cfg} {wrt : Nat → Bool} {s : St} {o : Oper} {u : H} {K : St → H → Prop} {bs : List Nat} {a : Act} {w : World} {Q : Exit → Act → World → Prop} {ro : Option Nat} {fv : Value} {args : Array Value} {ss : List Sh}
    (hf : Fits s bs u a w) (hnd : ∀ c, o.op ≠ .defer c) (h : ClR C.P fv args ss u (contC s o.dst ss K))
    (hr : ∀ l, fv = .func (.yield l) #[] #[] → (execOp a.eval o).run C.P w = (Instr.yield l args).run C.P w) : o.wpIn (Fr ro) 0 C.P a w (After wrt K s bs u a w o.dst) Q := by
  obtain ⟨l, rfl, hy⟩ := h
  obtain ⟨fn, tmps, assign, body, hrun, hround⟩ := hy w hf.sub
  refine ⟨fun _ _ => trivial, ?_⟩
  have e : o.semAt (Fr ro).round a.eval = execOp a.eval o := Oper.semAt_eq ro _ _ hnd
  rw [e, hr l rfl, hrun]
  refine ⟨fun hx => by simp [Fr, Fence.wide] at hx, RoundIn.mono hround ?_⟩
  rintro e w' ⟨v, u', rfl, ⟨vs, hv, rfl, hK⟩, hs⟩
  have hK' : K (s.put o.dst (.v (encRes ss vs))) u' := (unC_lamC hv _).1 hK
  exact ⟨_, u', bs, _, hK', (hf.step hs).put o.dst (x := .v _) rfl, hs.hide bs, rfl, Kept.put wrt s o.dst _⟩

theorem stepY_sound {C : Cfg} {wrt : Nat → Bool} {s : St} {o : Oper} {u : H} {K : St → H → Prop} {bs : List Nat} {a : Act} {w : World} {Q : Exit → Act → World → Prop} {ro : Option Nat}
    (hG : Good C) (hd : ro = none ∨ ∀ c, o.op ≠ .defer c) (hf : Fits s bs u a w) (h : stepY C wrt s o u K) : o.wpIn (Fr ro) 0 C.P a w (After wrt K s bs u a w o.dst) Q := by
  unfold stepY at h
  split at h
  · rename_i c e
    split at h
    · rename_i t hc
      split at h
      · rename_i vs ss fv hv hss hx
        have hargs := vals_eval hf.toFitsE hv
        have hsv : s.sv (.tmp t) = some (.v fv) := hx
        rcases h with h | h
        · refine wp_to_In ro hd (s_call hG hf e ?_)
          rw [hv, hss, hc]
          simp only [hsv]
          exact h
        · refine of_ClR hf (fun c' => by rw [e]; exact Op.noConfusion) h ?_
          rintro l rfl
          unfold execOp; rw [e]
          simp only [resolve, hc, conc_v hf.toFitsE hsv, Deferred.ofValue, pure_bind, invoke, hargs]
          simp
      · exact h.elim
    · exact wp_to_In ro hd (step_sound hG hf h)
  · exact wp_to_In ro hd (step_sound hG hf h)

section
variable {C : Cfg} {wrt : Nat → Bool} {s : St} {o : Oper} {u : H} {K : St → H → Prop} {bs : List Nat} {a : Act} {w : World} {Q : Exit → Act → World → Prop}

theorem Fits.told (hf : Fits s bs u a w) {s' : St} (ht : Told s s' bs a) : Fits s' bs u a w :=
  ⟨ht.e, by rw [ht.loc]; exact hf.len, by rw [ht.loc]; exact hf.loc, hf.nodup, hf.hid, hf.sub⟩

theorem Kept.told {s s' s'' : St} (ht : s'.loc = s.loc ∧ s'.n = s.n) (k : Kept wrt s' s'') : Kept wrt s s'' :=
  ⟨k.n.trans ht.2, by rw [← ht.1]; exact k.len, fun i cs e => k.same i cs (by rw [ht.1]; exact e)⟩

theorem Oper.wpIn_mono' {F : Fence} {n : Nat} {P : Program} {o : Oper} {a : Act} {w : World} {next next' : Act → World → Prop} {Q : Exit → Act → World → Prop} (h : ∀ a w, next a w → next' a w) (hw : o.wpIn F n P a w next Q) :
    o.wpIn F n P a w next' Q := by
  refine ⟨hw.1, ?_⟩
  have h2 := hw.2
  generalize (o.semAt F.round a.eval).run P w = r at h2 ⊢
  cases r with
  | ok nx w' =>
    cases nx with
    | value v => exact h _ _ h2
    | skip => exact h _ _ h2
    | defer d => exact h _ _ h2
    | enter f args => exact ⟨h2.1, h2.2.mono fun e w2 he => by cases e <;> first | exact h _ _ he | exact he⟩
    | row row args => exact ⟨h2.1, h2.2.mono fun v w2 he => h _ _ he⟩
    | round l f tmps assign body => exact ⟨h2.1, h2.2.mono fun e w2 he => by cases e <;> first | exact h _ _ he | exact he⟩
    | _ => exact h2
  | halt z w' => cases z <;> exact h2

theorem exec_soundIn (hG : Good C) {all : Array Oper} (hf : Fits s bs u a w) (h : guardW s all o fun s' want => match want with
    | true => stepY C wrt s' o u K
    | false => K (s'.put o.dst (.v undef)) u) (ro : Option Nat) (hnd : ro = none ∨ ∀ c, o.op ≠ .defer c) :
    (Region.wanted o (yielded all a.tmps) = true ∧ o.wpIn (Fr ro) 0 C.P a w (After wrt K s bs u a w o.dst) Q) ∨
    (Region.wanted o (yielded all a.tmps) = false ∧ After wrt K s bs u a w o.dst (a.put o.dst undef) w) := by
  obtain ⟨s', want, h', ht, hw⟩ := guardW_spec h hf.toFitsE
  cases want with
  | true =>
    refine .inl ⟨hw, ?_⟩
    refine Oper.wpIn_mono' ?_ (stepY_sound hG hnd (hf.told ht) h')
    rintro a' w' ⟨s'', u', bs', v, hk, hf', hs, ha, hkp⟩
    exact ⟨s'', u', bs', v, hk, hf', hs, ha, hkp.told ⟨ht.loc, ht.n⟩⟩
  | false =>
    refine .inr ⟨hw, ?_⟩
    exact ⟨_, u, bs, undef, h', (hf.told ht).put o.dst (x := .v undef) rfl, Step.refl hf.sub, rfl, (Kept.put wrt s' _ _).told ⟨ht.loc, ht.n⟩⟩

theorem exec_sound (hG : Good C) {all : Array Oper} (hf : Fits s bs u a w) (h : guardW s all o fun s' want => match want with
    | true => stepOp C wrt s' o u K
    | false => K (s'.put o.dst (.v undef)) u) :
    (Region.wanted o (yielded all a.tmps) = true ∧ o.wp C.P a w (After wrt K s bs u a w o.dst) Q) ∨
    (Region.wanted o (yielded all a.tmps) = false ∧ After wrt K s bs u a w o.dst (a.put o.dst undef) w) := by
  obtain ⟨s', want, h', ht, hw⟩ := guardW_spec h hf.toFitsE
  cases want with
  | true =>
    refine .inl ⟨hw, ?_⟩
    refine Oper.wp_mono ?_ (step_sound hG (hf.told ht) h')
    rintro a' w' ⟨s'', u', bs', v, hk, hf', hs, ha, hkp⟩
    exact ⟨s'', u', bs', v, hk, hf', hs, ha, hkp.told ⟨ht.loc, ht.n⟩⟩
  | false =>
    refine .inr ⟨hw, ?_⟩
    exact ⟨_, u, bs, undef, h', (hf.told ht).put o.dst (x := .v undef) rfl, Step.refl hf.sub, rfl, (Kept.put wrt s' _ _).told ⟨ht.loc, ht.n⟩⟩

/-- What was true behind a step, and what is asked further on. -/
def Cont (wrt : Nat → Bool) (s : St) (bs : List Nat) (u : H) (a : Act) (w : World) (ds : Nat → Bool) (K : St → H → Prop) (R : Act → World → Prop) : Prop :=
  ∀ s' u' bs' a' w', K s' u' → Fits s' bs' u' a' w' → Step u bs w u' bs' w' → Kept wrt s s' → (∀ d, ds d = false → a'.tmps[d]? = a.tmps[d]?) → R a' w'

theorem Cont.next {s' : St} {u' : H} {bs' : List Nat} {a' : Act} {w' : World} {ds : Nat → Bool} {R : Act → World → Prop} (h : Cont wrt s bs u a w ds K R)
    (hs : Step u bs w u' bs' w') (hk : Kept wrt s s') (ha : ∀ d, ds d = false → a'.tmps[d]? = a.tmps[d]?) : Cont wrt s' bs' u' a' w' ds K R :=
  fun s2 u2 bs2 a2 w2 k2 f2 h2 p2 d2 => h s2 u2 bs2 a2 w2 k2 f2 (hs.trans h2) (hk.trans p2) fun d hd => (d2 d hd).trans (ha d hd)

theorem put_frame {ds : Nat → Bool} {dst : Option Tmp} {v : Value} (h : ∀ d, dst = some d → ds d = true) : ∀ d, ds d = false → (a.put dst v).tmps[d]? = a.tmps[d]? := by
  intro d hd
  cases dst with
  | none => rfl
  | some x =>
    rw [put_tmps, if_neg]
    rintro ⟨rfl, _⟩
    rw [h x rfl] at hd; cases hd

theorem seq_soundIn (hG : Good C) (ro : Option Nat) {all : Array Oper} {ds : Nat → Bool} : ∀ (l : List Oper) (s : St) (u : H) (bs : List Nat) (a : Act) (w : World), seqW C wrt all l s u K → Fits s bs u a w →
    (ro = none ∨ ∀ o ∈ l, ∀ c, o.op ≠ .defer c) → (∀ o ∈ l, ∀ d, o.dst = some d → ds d = true) → Cont wrt s bs u a w ds K (Q .normal) → wpListIn (Fr ro) 0 C.P all Q l a w := by
  intro l
  induction l with
  | nil =>
    intro s u bs a w h hf _ _ hc
    exact hc s u bs a w h hf (Step.refl hf.sub) (Kept.refl _ _) fun _ _ => rfl
  | cons o rest ih =>
    intro s u bs a w h hf hnd hd hc
    have hrest : ∀ o' ∈ rest, ∀ d, o'.dst = some d → ds d = true := fun o' ho' => hd o' (.tail _ ho')
    have hfr : ∀ v, ∀ d, ds d = false → (a.put o.dst v).tmps[d]? = a.tmps[d]? := fun v => put_frame (hd o (.head _))
    have key : ∀ a' w', After wrt (fun s'' u' => seqW C wrt all rest s'' u' K) s bs u a w o.dst a' w' → wpListIn (Fr ro) 0 C.P all Q rest a' w' := by
      rintro a' w' ⟨s', u', bs', v, hk, hf', hs, rfl, hkp⟩
      exact ih s' u' bs' _ w' hk hf' (hnd.imp id fun h o' ho' => h o' (.tail _ ho')) hrest (hc.next hs hkp (hfr v))
    simp only [wpListIn]
    rcases exec_soundIn (Q := Q) hG (K := fun s'' u' => seqW C wrt all rest s'' u' K) hf h ro (hnd.imp id fun h => h o (.head _)) with ⟨hw, h1⟩ | ⟨hw, h1⟩
    · rw [if_pos hw]
      exact Oper.wpIn_mono' key h1
    · rw [if_neg (by rw [hw]; simp)]
      exact ⟨fun _ _ => trivial, key _ _ h1⟩

/-- How many have not come up. -/
def left (listed : Array Bool) : Nat := listed.toList.count false

theorem left_set {listed : Array Bool} {i : Nat} (h : listed.getD i true = false) : left (listed.setIfInBounds i true) + 1 = left listed := by
  have hlt : i < listed.size := by
    rcases Nat.lt_or_ge i listed.size with k | k
    · exact k
    · simp [Array.getElem?_eq_none k] at h
  have key : ∀ (l : List Bool) (i : Nat), l[i]? = some false → (l.set i true).count false + 1 = l.count false := by
    intro l
    induction l with
    | nil => intro i h; simp at h
    | cons x l ih =>
      intro i h
      cases i with
      | zero => simp at h; subst h; simp
      | succ i =>
        simp only [List.getElem?_cons_succ] at h
        have := ih i h
        simp only [List.set_cons_succ, List.count_cons]
        omega
  unfold left
  rw [Array.toList_setIfInBounds]
  refine key _ i ?_
  simp [hlt] at h
  rw [Array.getElem?_toList, Array.getElem?_eq_getElem hlt, h]

theorem ready_left {ops : Array Oper} {listed : Array Bool} (h : left listed = 0) : Region.ready .any ops listed = [] := by
  cases hr : Region.ready .any ops listed with
  | nil => rfl
  | cons i l =>
    have hi : i ∈ Region.ready .any ops listed := by rw [hr]; exact .head _
    have := left_set (mem_ready.1 hi).1
    omega

theorem load_LV (hf : FitsE s bs a) {t : TypeId} {x : Operand} (e : o.op = .load t x) (h : stepOp C wrt s o u K) : LV C s o u K bs a := by
  unfold stepOp at h
  rw [e] at h
  simp only at h
  split at h
  · rename_i i off sh hx hsh
    split at h
    · rename_i cs hl
      split at h
      · rename_i hb; exact s_loadLoc hf e hx hsh hl (Nat.le_of_ble_eq_true hb) h
      · exact h.elim
    · exact h.elim
  · rename_i p sh hx hsh; exact s_loadPtr hf e hx hsh h
  · exact h.elim

theorem find_some {l : List Nat} {p : Nat → Bool} {i : Nat} (h : l.find? p = some i) : i ∈ l ∧ p i = true :=
  ⟨List.mem_of_find?_eq_some h, List.find?_some h⟩

theorem draw_sound (hG : Good C) {ops : Array Oper} {ds : Nat → Bool} {u0 : H} {loc0 : List (List Value)} {bs0 : List Nat} (hsel : Region.noSelect ops = true)
    (hQ : ∀ c a w, ¬ Q (.panic c) a w) (hd : ∀ (o : Oper), o ∈ ops.toList → ∀ d, o.dst = some d → ds d = true) :
    ∀ (f : Nat) (listed : Array Bool) (flag : Bool) (s : St) (u : H), drawW C wrt ops u0 f listed flag s u K → ∀ (bs : List Nat) (a : Act) (w : World) (g : Nat), Fits s bs u a w →
      Closed ops listed → left listed ≤ g → (flag = true → u = u0 ∧ s.loc = loc0 ∧ bs = bs0) → (∃ ext, bs = bs0 ++ ext) → Cont wrt s bs u a w ds K (Q .normal) →
      wpAnyG C.P ops Q (ndOf ops) (FitsW loc0 bs0 u0) g listed a w := by
  intro f
  induction f with
  | zero => intro listed flag s u h; exact h.elim
  | succ f ih =>
    intro listed flag s u h bs a w g hf hc hg hflag hpre hcont
    have hfr : ∀ (i : Nat) (o : Oper), ops[i]? = some o → ∀ v, ∀ d, ds d = false → (a.put o.dst v).tmps[d]? = a.tmps[d]? := fun i o ho v =>
      put_frame (hd o (by rw [Array.mem_toList_iff]; exact Array.mem_of_getElem? ho))
    unfold drawW at h
    split at h
    · -- one that hangs on the slots alone
      rename_i i hfind
      obtain ⟨hi, hp⟩ := find_some hfind
      simp only [Bool.and_eq_true] at hp
      have hl := left_set (mem_ready.1 hi).1
      obtain ⟨g, rfl⟩ : ∃ m, g = m + 1 := ⟨g - 1, by omega⟩
      unfold execP at h
      split at h
      · exact h.elim
      · rename_i oi hoi
        obtain ⟨s', want, h', ht, hw⟩ := guardW_spec h hf.toFitsE
        have hf1 := hf.told ht
        have fin : ∀ y v, conc bs y = some v → drawW C wrt ops u0 f (listed.setIfInBounds i true) flag (s'.put oi.dst y) u K → YieldsIf C.P ops (fun _ => True) oi v a →
            wpAnyG C.P ops Q (ndOf ops) (FitsW loc0 bs0 u0) (g + 1) listed a w := by
          intro y v hcy hK hy
          refine anyG_first hoi (Region.noSelect_spec hsel) hQ 0 (T := fun _ => True) (.inl fun _ => trivial) g listed a w hc (fun j oj hj hne hun hno => Region.free_spec hoi hp.2 j oj hj hne hun hno) hi hy trivial ?_
          have hfp := hf1.put oi.dst hcy
          refine ih _ flag _ u hK bs _ w g hfp (hc.set hi) (by omega) ?_ hpre ?_
          · intro hfl
            obtain ⟨e1, e2, e3⟩ := hflag hfl
            exact ⟨e1, by rw [(put_loc _ _ _).1, ht.loc]; exact e2, e3⟩
          · exact hcont.next (Step.refl hf.sub) ((Kept.put wrt s' _ _).told ⟨ht.loc, ht.n⟩) (hfr i oi hoi v)
        cases want with
        | true =>
          simp only at h'
          split at h'
          · rename_i hpp
            obtain ⟨y, v, hK, hcy, hr⟩ := pure_sound hG ht.e hpp h'
            exact fin y v hcy hK (.inl ⟨hw, fun w' _ => hr w'⟩)
          · exact h'.elim
        | false => exact fin (.v undef) undef rfl h' (.inr ⟨hw, rfl⟩)
    · split at h
      · -- a read that waits for nobody who writes
        rename_i i hfind
        obtain ⟨hi, hp⟩ := find_some hfind
        simp only [Bool.and_eq_true] at hp
        have hl := left_set (mem_ready.1 hi).1
        obtain ⟨g, rfl⟩ : ∃ m, g = m + 1 := ⟨g - 1, by omega⟩
        obtain ⟨rfl, hloc, hbs⟩ := hflag rfl
        unfold execW at h
        split at h
        · exact h.elim
        · rename_i oi hoi
          obtain ⟨s', want, h', ht, hw⟩ := guardW_spec h hf.toFitsE
          have hf1 := hf.told ht
          have hSw : FitsW loc0 bs0 u w := by rw [← hloc, ← hbs]; exact hf.w
          have hearly := hp.1
          have hload : ∃ t x, oi.op = .load t x := by
            unfold early isLoad at hearly
            rw [hoi] at hearly
            simp only [Bool.and_eq_true] at hearly
            have h1 := hearly.1
            split at h1
            · rename_i t x e; exact ⟨t, x, e⟩
            · cases h1
          have hT : ∀ j, ndOf ops j = false → j = i ∨ waits ops ops.size j i = true := by
            intro j hj
            unfold ndOf at hj
            have hlt : i < ops.size := (Array.getElem?_eq_some_iff.1 hoi).1
            have := List.any_eq_false.1 hj i (List.mem_range.2 hlt)
            simp only [Bool.and_eq_true, Bool.not_eq_true', not_and, Bool.not_eq_false] at this
            by_cases hji : j = i
            · exact .inl hji
            · refine .inr (this ⟨hearly, ?_⟩)
              cases hb : Nat.beq i j with
              | false => rfl
              | true => exact absurd (Nat.eq_of_beq_eq_true hb).symm hji
          have fin : ∀ y v, conc bs y = some v → drawW C wrt ops u f (listed.setIfInBounds i true) true (s'.put oi.dst y) u K → YieldsIf C.P ops (FitsW loc0 bs0 u) oi v a →
              wpAnyG C.P ops Q (ndOf ops) (FitsW loc0 bs0 u) (g + 1) listed a w := by
            intro y v hcy hK hy
            refine anyG_first hoi (Region.noSelect_spec hsel) hQ ops.size (T := FitsW loc0 bs0 u) (.inr ⟨rfl, hT⟩) g listed a w hc (fun j oj hj hne hun hno => Region.free_spec hoi hp.2 j oj hj hne hun hno) hi hy hSw ?_
            have hfp := hf1.put oi.dst hcy
            refine ih _ true _ u hK bs _ w g hfp (hc.set hi) (by omega) ?_ hpre ?_
            · exact fun _ => ⟨rfl, by rw [(put_loc _ _ _).1, ht.loc]; exact hloc, hbs⟩
            · exact hcont.next (Step.refl hf.sub) ((Kept.put wrt s' _ _).told ⟨ht.loc, ht.n⟩) (hfr i oi hoi v)
          cases want with
          | true =>
            obtain ⟨t, x, e⟩ := hload
            obtain ⟨y, v, hK, hcy, hr⟩ := load_LV ht.e e h'
            exact fin y v hcy hK (.inl ⟨hw, fun w' hw' => hr w' (by rw [ht.loc, hloc, hbs]; exact hw')⟩)
          | false => exact fin (.v undef) undef rfl h' (.inr ⟨hw, rfl⟩)
      · -- whoever may come up
        cases hrs : Region.ready .any ops listed with
        | nil =>
          have hrd := hrs
          rw [hrs] at h
          have hQn := hcont s u bs a w h hf (Step.refl hf.sub) (Kept.refl _ _) fun _ _ => rfl
          cases g with
          | zero => exact ⟨hrd, hQn⟩
          | succ g => exact ⟨fun _ => hQn, by rw [hrd]; intro i hi; cases hi⟩
        | cons i0 l0 =>
          have hne : Region.ready .any ops listed ≠ [] := by rw [hrs]; simp
          rw [hrs] at h
          simp only at h
          have hg1 : ∃ m, g = m + 1 := by
            cases g with
            | zero => exact absurd (ready_left (ops := ops) (by omega)) hne
            | succ m => exact ⟨m, rfl⟩
          obtain ⟨g, rfl⟩ := hg1
          refine ⟨fun e => absurd e hne, fun i hi => ?_⟩
          have hl := left_set (mem_ready.1 hi).1
          have h1 := allI_spec h i (by rw [← hrs]; exact hi)
          unfold wpOp
          have step : ∀ (wt : Nat → Bool) (K' : St → H → Prop), (∀ s1 s2, Kept wt s1 s2 → Kept wrt s1 s2) → execW C wt ops s i u K' →
              (∀ oi, ops[i]? = some oi → ∀ a' w', After wt K' s bs u a w oi.dst a' w' → (ndOf ops i = true → FitsW loc0 bs0 u0 w → FitsW loc0 bs0 u0 w') ∧ wpAnyG C.P ops Q (ndOf ops) (FitsW loc0 bs0 u0) g (listed.setIfInBounds i true) a' w') →
              (match ops[i]? with
                | none => (ndOf ops i = true → FitsW loc0 bs0 u0 w → FitsW loc0 bs0 u0 w) ∧ wpAnyG C.P ops Q (ndOf ops) (FitsW loc0 bs0 u0) g (listed.setIfInBounds i true) a w
                | some o => if Region.wanted o (yielded ops a.tmps) = true then (o.wp C.P a w (fun a' w' => (ndOf ops i = true → FitsW loc0 bs0 u0 w → FitsW loc0 bs0 u0 w') ∧ wpAnyG C.P ops Q (ndOf ops) (FitsW loc0 bs0 u0) g (listed.setIfInBounds i true) a' w') Q) ∨ (o.asks C.P a w ∧ LetsOut Q)
                  else (ndOf ops i = true → FitsW loc0 bs0 u0 w → FitsW loc0 bs0 u0 w) ∧ wpAnyG C.P ops Q (ndOf ops) (FitsW loc0 bs0 u0) g (listed.setIfInBounds i true) (a.put o.dst undef) w) := by
            intro wt K' _ hx hnext
            unfold execW at hx
            split at hx
            · exact hx.elim
            · rename_i oi hoi
              rw [hoi]
              show (if Region.wanted oi (yielded ops a.tmps) = true then _ else _)
              rcases exec_sound (Q := Q) hG hf hx with ⟨hw, h2⟩ | ⟨hw, h2⟩
              · rw [if_pos hw]
                exact .inl (Oper.wp_mono (hnext oi hoi) h2)
              · rw [if_neg (by rw [hw]; simp)]
                exact hnext oi hoi _ _ h2
          split at h1
          · rename_i hnd
            refine step noWrite _ (fun s1 s2 k => ⟨k.n, k.len, fun i cs e _ => k.same i cs e rfl⟩) h1 ?_
            rintro oi hoi a' w' ⟨s', u', bs', v, ⟨hle, hK⟩, hf', hs, rfl, hkp⟩
            obtain ⟨ext, hext⟩ := hpre
            obtain ⟨ext2, hext2, _⟩ := hs.more
            have hkp' : Kept wrt s s' := ⟨hkp.n, hkp.len, fun i cs e _ => hkp.same i cs e rfl⟩
            refine ⟨fun _ hS => ⟨fun j cs e => ?_, hf'.sub.mono hle⟩, ih _ false s' u' hK bs' _ w' g hf' (hc.set hi) (by omega) (fun e => by cases e) ⟨ext ++ ext2, by rw [hext2, hext, List.append_assoc]⟩ (hcont.next hs hkp' (hfr i oi hoi v))⟩
            obtain ⟨b, T, hb1, hb2⟩ := hS.loc j cs e
            have hjl : j < bs0.length := by
              rcases Nat.lt_or_ge j bs0.length with k | k
              · exact k
              · rw [List.getElem?_eq_none k] at hb1; cases hb1
            have hb3 : bs[j]? = some b := by rw [hext, List.getElem?_append_left hjl]; exact hb1
            have hjs : j < s.loc.length := by
              rw [← hf.len]
              rcases Nat.lt_or_ge j bs.length with k | k
              · exact k
              · rw [List.getElem?_eq_none k] at hb3; cases hb3
            obtain ⟨b', T', h5, h6⟩ := hf.loc j _ (List.getElem?_eq_getElem hjs)
            rw [hb3] at h5; cases h5
            rw [hb2] at h6
            simp only [Option.some.injEq, Obj.cells.injEq] at h6
            have hcs : cs = s.loc[j] := by
              have := congrArg Array.toList h6.1
              simpa using this
            have h7 := hkp.same j _ (List.getElem?_eq_getElem hjs) rfl
            obtain ⟨b2, T2, h8, h9⟩ := hf'.loc j _ h7
            refine ⟨b, T2, hb1, ?_⟩
            have hjb : j < bs.length := by rw [hf.len]; exact hjs
            rw [hext2, List.getElem?_append_left hjb, hb3] at h8
            cases h8
            rw [hcs]; exact h9
          · rename_i hnd
            refine step wrt _ (fun _ _ k => k) h1 ?_
            rintro oi hoi a' w' ⟨s', u', bs', v, hK, hf', hs, rfl, hkp⟩
            obtain ⟨ext, hext⟩ := hpre
            obtain ⟨ext2, hext2, _⟩ := hs.more
            exact ⟨(fun e => by rw [hnd] at e; cases e), ih _ false s' u' hK bs' _ w' g hf' (hc.set hi) (by omega) (fun e => by cases e) ⟨ext ++ ext2, by rw [hext2, hext, List.append_assoc]⟩ (hcont.next hs hkp (hfr i oi hoi v))⟩

end
end Go.Proofs.YtgfafpiinencpaaGreat
