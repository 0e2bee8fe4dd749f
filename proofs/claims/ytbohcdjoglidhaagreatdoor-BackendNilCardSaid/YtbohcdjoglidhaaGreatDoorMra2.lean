/- Texts of mine, joined by merge.py: VcRegion, VcCode, VcGood, VcFns, VcUser. -/
import Derived.Test.YtbohcdjoglidhaaGreatDoorMra1
import Derived.Scope
import Derived.RangeFuncLeaves
import Derived.RangeFuncRecord
import Derived.Test.YtbohcdjoglidhaaGreatDoorProg
import Derived.Laws.StructEq
import Derived.ChangeKeysEq
import Derived.KernelRfl
import Derived.Laws.MathBits
import Derived.Laws.Externs
import Derived.IntWalk
import Derived.DataElems
set_option maxRecDepth 100000

/- VcRegion -/
namespace Go.Proofs.YtbohcdjoglidhaaGreatDoor

/-- A step of an iterator over a map: it is over, or there is one more entry. -/
def NextT (P : Program) (it : Value) (u : H) (K0 : H → Prop) (K1 : Value → Value → H → Prop) : Prop :=
  ∀ w, Sub u w → ∃ w' u', ((Instr.next it false 0).run P w = .ok (.tuple #[.bool false]) w' ∧ K0 u' ∨ ∃ k e, (Instr.next it false 0).run P w = .ok (.tuple #[.bool true, k, e]) w' ∧ K1 k e u') ∧ Step u [] w u' [] w'

/-- An iterator's entry, read. -/
def EntT (P : Program) (it : Value) (u : H) (K : Value → Value → H → Prop) : Prop :=
  ∀ w, Sub u w → ∃ k e w' u', (Instr.entry it).run P w = .ok (.tuple #[k, e]) w' ∧ K k e u' ∧ Step u [] w u' [] w'

/-- A value of this kind. -/
def UnV (t : CT) (v : Value) (f : t.den → Prop) : Prop := t.un v f

/-- Is there one more entry? -/
def headB : Option Value → Option Bool
  | some (.tuple vs) => match vs.toList with
    | v :: _ => match v with
      | .bool b => some b
      | _ => none
    | [] => none
  | _ => none

theorem headB_spec {x : Option Value} {b : Bool} (h : headB x = some b) : ∃ vs, x = some (.tuple vs) ∧ vs[0]? = some (.bool b) := by
  unfold headB at h
  split at h
  · rename_i vs
    split at h
    · rename_i v l hl
      split at h
      · cases h
        exact ⟨vs, rfl, by rw [← Array.getElem?_toList, hl]; rfl⟩
      · cases h
    · cases h
  · cases h

/-- A step where yield may be called, too; and a step of a range over a map. -/
def stepY (C : Cfg) (wrt : Nat → Bool) (s : St) (o : Oper) (u : H) (K : St → H → Prop) : Prop :=
  match o.op with
  | .call c => match c.callee with
    | .value (.tmp t) => match vals s c.args, shsOf C.P o.type, look s.env t with
      | some vs, some ss, some (.v fv) => ClY C.P fv vs.toArray ss u (contC s o.dst ss K)
      | _, _, _ => False
    | _ => stepOp C wrt s o u K
  | .range t x => match s.val x with
    | some v => SemT C.P (Instr.range t v) [.one .ptr] u (contC s o.dst [.one .ptr] K)
    | none => False
  | .next x false => match s.val x with
    | some v => NextT C.P v u (fun u' => K (s.put o.dst (.v (.tuple #[.bool false]))) u') (fun k e u' => K (s.put o.dst (.v (.tuple #[.bool true, k, e]))) u')
    | none => False
  | .entry x => match s.val x with
    | some v => EntT C.P v u (fun k e u' => K (s.put o.dst (.v (.tuple #[k, e]))) u')
    | none => False
  | .extract (.tmp t) i => match memB C.ent t with
    | true => match s.val (.tmp t), shOf C.P o.type with
      | some (.tuple vs), some (.one ct) => match vs.toList[i]? with
        | some v => UnV ct v fun y => K (s.put o.dst (.v (ct.enc y))) u
        | none => False
      | _, _ => False
    | false => match memB C.nxt t with
      | true => match Nat.beq i 0, headB (s.val (.tmp t)) with
        | true, some true => K (s.put o.dst .tt) u
        | true, some false => K (s.put o.dst .ff) u
        | _, _ => False
      | false => stepOp C wrt s o u K
  | _ => stepOp C wrt s o u K

def seqW (C : Cfg) (wrt : Nat → Bool) (all : Array Oper) : List Oper → St → H → (St → H → Prop) → Prop
  | [], s, u, K => K s u
  | o :: rest, s, u, K => guardW s all o fun s' want => match want with
    | true => stepY C wrt s' o u fun s'' u' => seqW C wrt all rest s'' u' K
    | false => seqW C wrt all rest (s'.put o.dst (.v undef)) u K

/-- The fence of a frame, or of a round's. -/
abbrev Fr (ro : Option Nat) : Fence := { Fence.wide with round := ro }

theorem wp_to_In {P : Program} {o : Oper} {a : Act} {w : World} {next : Act → World → Prop} {Q : Exit → Act → World → Prop} (ro : Option Nat) (hd : ro = none ∨ ∀ c, o.op ≠ .defer c) (h : o.wp P a w next Q) :
    o.wpIn (Fr ro) 0 P a w next Q := by
  refine ⟨fun _ _ => trivial, ?_⟩
  have e : o.semAt (Fr ro).round a.eval = execOp a.eval o := by
    rcases hd with rfl | hd
    · rfl
    · exact Oper.semAt_eq ro _ _ hd
  rw [e]
  unfold Oper.wp at h
  cases hr : (execOp a.eval o).run P w with
  | ok nx w' =>
    rw [hr] at h
    cases nx with
    | value v => exact h
    | skip => exact h
    | defer d => exact h
    | enter f args => exact ⟨fun hx => by simp [Fence.wide] at hx, (callsIn_wide (n := 0 - 1)).2 h⟩
    | row row args => exact ⟨fun hx => by simp [Fence.wide] at hx, fun c cs _ => let ⟨v, w2, hq, hs⟩ := h c cs; ⟨v, w2, hq, stepsIn_wide.2 hs⟩⟩
    | _ => exact h.elim
  | halt z w' =>
    rw [hr] at h
    cases z with
    | panic v => exact h
    | _ => exact h.elim

theorem of_ClR {C : Cfg} {wrt : Nat → Bool} {s : St} {o : Oper} {u : H} {K : St → H → Prop} {bs : List Nat} {a : Act} {w : World} {Q : Exit → Act → World → Prop} {ro : Option Nat} {fv : Value} {args : Array Value} {ss : List Sh}
    (hf : Fits s bs u a w) (hnd : ∀ c, o.op ≠ .defer c) (h : ClR C.P fv args ss u (contC s o.dst ss K))
    (hr : ∀ l, fv = .func (.yield l) #[] #[] → (execOp a.eval o).run C.P w = (Instr.yield l args).run C.P w) : o.wpIn (Fr ro) 0 C.P a w (After wrt K s bs u a w o.dst) Q := by
  obtain ⟨l, rfl, hy⟩ := h
  obtain ⟨fn, tmps, assign, body, hrun, hround⟩ := hy w hf.sub
  refine ⟨fun _ _ => trivial, ?_⟩
  have e : o.semAt (Fr ro).round a.eval = execOp a.eval o := Oper.semAt_eq ro _ _ hnd
  rw [e, hr l rfl, hrun]
  refine ⟨fun hx => by simp [Fence.wide] at hx, RoundIn.mono hround ?_⟩
  rintro e w' ⟨v, u', rfl, ⟨vs, hv, rfl, hK⟩, hs⟩
  have hK' : K (s.put o.dst (.v (encRes ss vs))) u' := (unC_lamC hv _).1 hK
  exact ⟨_, u', bs, _, hK', (hf.step hs).put o.dst (x := .v _) rfl, hs.hide bs, rfl, Kept.put wrt s o.dst _⟩

theorem stepY_sound {C : Cfg} {wrt : Nat → Bool} {s : St} {o : Oper} {u : H} {K : St → H → Prop} {bs : List Nat} {a : Act} {w : World} {Q : Exit → Act → World → Prop} {ro : Option Nat}
    (hG : Good C) (hd : ro = none ∨ ∀ c, o.op ≠ .defer c) (hf : Fits s bs u a w) (h : stepY C wrt s o u K) : o.wpIn (Fr ro) 0 C.P a w (After wrt K s bs u a w o.dst) Q := by
  unfold stepY at h
  split at h
  · rename_i c e
    split at h
    · rename_i t hc
      split at h
      · rename_i vs ss fv hv hss hx
        have hargs := vals_eval hf.toFitsE hv
        have hsv : s.sv (.tmp t) = some (.v fv) := hx
        rcases h with h | h
        · refine wp_to_In ro hd (s_call hG hf e ?_)
          rw [hv, hss, hc]
          simp only [hsv]
          exact h
        · refine of_ClR hf (fun c' => by rw [e]; exact Op.noConfusion) h ?_
          rintro l rfl
          unfold execOp; rw [e]
          simp only [resolve, hc, conc_v hf.toFitsE hsv, Deferred.ofValue, pure_bind, invoke, hargs]
          simp
      · exact h.elim
    · exact wp_to_In ro hd (step_sound hG hf h)
  · rename_i t x e
    split at h
    · rename_i v hv
      refine wp_to_In ro hd (of_SemT hf h fun z w' hr => .inl ?_)
      unfold execOp; rw [e]; simp only [hf.val hv, Sem.run_bind, hr, Result.andThen_ok]; rfl
    · exact h.elim
  · rename_i x e
    split at h
    · rename_i v hv
      obtain ⟨w', u', hK, hs⟩ := h w hf.sub
      have run : ∀ z, (Instr.next v false 0).run C.P w = .ok z w' → (execOp a.eval o).run C.P w = .ok (.value z) w' := fun z hr => by
        have hr' : (Instr.next v false o.type).run C.P w = .ok z w' := hr
        unfold execOp; rw [e]; simp only [hf.val hv, Sem.run_bind, hr', Result.andThen_ok]; rfl
      rcases hK with ⟨hr, hK⟩ | ⟨k, z, hr, hK⟩
      · exact wp_to_In ro hd (of_grown hf (run _ hr) hs hK)
      · exact wp_to_In ro hd (of_grown hf (run _ hr) hs hK)
    · exact h.elim
  · rename_i x e
    split at h
    · rename_i v hv
      obtain ⟨k, z, w', u', hr, hK, hs⟩ := h w hf.sub
      refine wp_to_In ro hd (of_grown hf ?_ hs hK)
      unfold execOp; rw [e]; simp only [hf.val hv, Sem.run_bind, hr, Result.andThen_ok]; rfl
    · exact h.elim
  · rename_i t i e
    split at h
    · split at h
      · rename_i vs ct hv hsh
        split at h
        · rename_i v hi
          obtain ⟨y, rfl, hK⟩ := CT.un_spec h
          refine wp_to_In ro hd (of_grown hf ?_ (Step.refl hf.sub) hK)
          have hi' : vs[i]? = some (ct.enc y) := by rw [← Array.getElem?_toList]; exact hi
          unfold execOp; rw [e]; simp only [hf.val hv, Sem.run_bind]
          simp [Instr.extract, hi']
        · exact h.elim
      · exact h.elim
    · split at h
      · have run : ∀ b, Nat.beq i 0 = true → headB (s.val (.tmp t)) = some b → (execOp a.eval o).run C.P w = .ok (.value (.bool b)) w := fun b h0 hb => by
          obtain ⟨vs, hv, hi'⟩ := headB_spec hb
          obtain rfl := Nat.eq_of_beq_eq_true h0
          unfold execOp; rw [e]; simp only [hf.val hv, Sem.run_bind]
          simp [Instr.extract, hi']
        split at h
        · rename_i h0 hb; exact wp_to_In ro hd (of_value hf (run _ h0 hb) rfl h)
        · rename_i h0 hb; exact wp_to_In ro hd (of_value hf (run _ h0 hb) rfl h)
        · exact h.elim
      · exact wp_to_In ro hd (step_sound hG hf h)
  · exact wp_to_In ro hd (step_sound hG hf h)

section
variable {C : Cfg} {wrt : Nat → Bool} {s : St} {o : Oper} {u : H} {K : St → H → Prop} {bs : List Nat} {a : Act} {w : World} {Q : Exit → Act → World → Prop}

theorem Fits.told (hf : Fits s bs u a w) {s' : St} (ht : Told s s' bs a) : Fits s' bs u a w :=
  ⟨ht.e, by rw [ht.loc]; exact hf.len, by rw [ht.loc]; exact hf.loc, hf.nodup, hf.hid, hf.sub⟩

theorem Kept.told {s s' s'' : St} (ht : s'.loc = s.loc ∧ s'.n = s.n) (k : Kept wrt s' s'') : Kept wrt s s'' :=
  ⟨k.n.trans ht.2, by rw [← ht.1]; exact k.len, fun i cs e => k.same i cs (by rw [ht.1]; exact e)⟩

theorem Oper.wpIn_mono' {F : Fence} {n : Nat} {P : Program} {o : Oper} {a : Act} {w : World} {next next' : Act → World → Prop} {Q : Exit → Act → World → Prop} (h : ∀ a w, next a w → next' a w) (hw : o.wpIn F n P a w next Q) :
    o.wpIn F n P a w next' Q := by
  refine ⟨hw.1, ?_⟩
  have h2 := hw.2
  generalize (o.semAt F.round a.eval).run P w = r at h2 ⊢
  cases r with
  | ok nx w' =>
    cases nx with
    | value v => exact h _ _ h2
    | skip => exact h _ _ h2
    | defer d => exact h _ _ h2
    | enter f args => exact ⟨h2.1, h2.2.mono fun e w2 he => by cases e <;> first | exact h _ _ he | exact he⟩
    | row row args => exact ⟨h2.1, h2.2.mono fun v w2 he => h _ _ he⟩
    | round l f tmps assign body => exact ⟨h2.1, h2.2.mono fun e w2 he => by cases e <;> first | exact h _ _ he | exact he⟩
    | _ => exact h2
  | halt z w' => cases z <;> exact h2

theorem exec_soundIn (hG : Good C) {all : Array Oper} (hf : Fits s bs u a w) (h : guardW s all o fun s' want => match want with
    | true => stepY C wrt s' o u K
    | false => K (s'.put o.dst (.v undef)) u) (ro : Option Nat) (hnd : ro = none ∨ ∀ c, o.op ≠ .defer c) :
    (Region.wanted o (yielded all a.tmps) = true ∧ o.wpIn (Fr ro) 0 C.P a w (After wrt K s bs u a w o.dst) Q) ∨
    (Region.wanted o (yielded all a.tmps) = false ∧ After wrt K s bs u a w o.dst (a.put o.dst undef) w) := by
  obtain ⟨s', want, h', ht, hw⟩ := guardW_spec h hf.toFitsE
  cases want with
  | true =>
    refine .inl ⟨hw, ?_⟩
    refine Oper.wpIn_mono' ?_ (stepY_sound hG hnd (hf.told ht) h')
    rintro a' w' ⟨s'', u', bs', v, hk, hf', hs, ha, hkp⟩
    exact ⟨s'', u', bs', v, hk, hf', hs, ha, hkp.told ⟨ht.loc, ht.n⟩⟩
  | false =>
    refine .inr ⟨hw, ?_⟩
    exact ⟨_, u, bs, undef, h', (hf.told ht).put o.dst (x := .v undef) rfl, Step.refl hf.sub, rfl, (Kept.put wrt s' _ _).told ⟨ht.loc, ht.n⟩⟩

theorem exec_sound (hG : Good C) {all : Array Oper} (hf : Fits s bs u a w) (h : guardW s all o fun s' want => match want with
    | true => stepOp C wrt s' o u K
    | false => K (s'.put o.dst (.v undef)) u) :
    (Region.wanted o (yielded all a.tmps) = true ∧ o.wp C.P a w (After wrt K s bs u a w o.dst) Q) ∨
    (Region.wanted o (yielded all a.tmps) = false ∧ After wrt K s bs u a w o.dst (a.put o.dst undef) w) := by
  obtain ⟨s', want, h', ht, hw⟩ := guardW_spec h hf.toFitsE
  cases want with
  | true =>
    refine .inl ⟨hw, ?_⟩
    refine Oper.wp_mono ?_ (step_sound hG (hf.told ht) h')
    rintro a' w' ⟨s'', u', bs', v, hk, hf', hs, ha, hkp⟩
    exact ⟨s'', u', bs', v, hk, hf', hs, ha, hkp.told ⟨ht.loc, ht.n⟩⟩
  | false =>
    refine .inr ⟨hw, ?_⟩
    exact ⟨_, u, bs, undef, h', (hf.told ht).put o.dst (x := .v undef) rfl, Step.refl hf.sub, rfl, (Kept.put wrt s' _ _).told ⟨ht.loc, ht.n⟩⟩

/-- What was true behind a step, and what is asked further on. -/
def Cont (wrt : Nat → Bool) (s : St) (bs : List Nat) (u : H) (a : Act) (w : World) (ds : Nat → Bool) (K : St → H → Prop) (R : Act → World → Prop) : Prop :=
  ∀ s' u' bs' a' w', K s' u' → Fits s' bs' u' a' w' → Step u bs w u' bs' w' → Kept wrt s s' → (∀ d, ds d = false → a'.tmps[d]? = a.tmps[d]?) → R a' w'

theorem Cont.next {s' : St} {u' : H} {bs' : List Nat} {a' : Act} {w' : World} {ds : Nat → Bool} {R : Act → World → Prop} (h : Cont wrt s bs u a w ds K R)
    (hs : Step u bs w u' bs' w') (hk : Kept wrt s s') (ha : ∀ d, ds d = false → a'.tmps[d]? = a.tmps[d]?) : Cont wrt s' bs' u' a' w' ds K R :=
  fun s2 u2 bs2 a2 w2 k2 f2 h2 p2 d2 => h s2 u2 bs2 a2 w2 k2 f2 (hs.trans h2) (hk.trans p2) fun d hd => (d2 d hd).trans (ha d hd)

theorem put_frame {ds : Nat → Bool} {dst : Option Tmp} {v : Value} (h : ∀ d, dst = some d → ds d = true) : ∀ d, ds d = false → (a.put dst v).tmps[d]? = a.tmps[d]? := by
  intro d hd
  cases dst with
  | none => rfl
  | some x =>
    rw [put_tmps, if_neg]
    rintro ⟨rfl, _⟩
    rw [h x rfl] at hd; cases hd

theorem seq_soundIn (hG : Good C) (ro : Option Nat) {all : Array Oper} {ds : Nat → Bool} : ∀ (l : List Oper) (s : St) (u : H) (bs : List Nat) (a : Act) (w : World), seqW C wrt all l s u K → Fits s bs u a w →
    (ro = none ∨ ∀ o ∈ l, ∀ c, o.op ≠ .defer c) → (∀ o ∈ l, ∀ d, o.dst = some d → ds d = true) → Cont wrt s bs u a w ds K (Q .normal) → wpListIn (Fr ro) 0 C.P all Q l a w := by
  intro l
  induction l with
  | nil =>
    intro s u bs a w h hf _ _ hc
    exact hc s u bs a w h hf (Step.refl hf.sub) (Kept.refl _ _) fun _ _ => rfl
  | cons o rest ih =>
    intro s u bs a w h hf hnd hd hc
    have hrest : ∀ o' ∈ rest, ∀ d, o'.dst = some d → ds d = true := fun o' ho' => hd o' (.tail _ ho')
    have hfr : ∀ v, ∀ d, ds d = false → (a.put o.dst v).tmps[d]? = a.tmps[d]? := fun v => put_frame (hd o (.head _))
    have key : ∀ a' w', After wrt (fun s'' u' => seqW C wrt all rest s'' u' K) s bs u a w o.dst a' w' → wpListIn (Fr ro) 0 C.P all Q rest a' w' := by
      rintro a' w' ⟨s', u', bs', v, hk, hf', hs, rfl, hkp⟩
      exact ih s' u' bs' _ w' hk hf' (hnd.imp id fun h o' ho' => h o' (.tail _ ho')) hrest (hc.next hs hkp (hfr v))
    simp only [wpListIn]
    rcases exec_soundIn (Q := Q) hG (K := fun s'' u' => seqW C wrt all rest s'' u' K) hf h ro (hnd.imp id fun h => h o (.head _)) with ⟨hw, h1⟩ | ⟨hw, h1⟩
    · rw [if_pos hw]
      exact Oper.wpIn_mono' key h1
    · rw [if_neg (by rw [hw]; simp)]
      exact ⟨fun _ _ => trivial, key _ _ h1⟩

/-- How many have not come up. -/
def left (listed : Array Bool) : Nat := listed.toList.count false

theorem left_set {listed : Array Bool} {i : Nat} (h : listed.getD i true = false) : left (listed.setIfInBounds i true) + 1 = left listed := by
  have hlt : i < listed.size := by
    rcases Nat.lt_or_ge i listed.size with k | k
    · exact k
    · simp [Array.getElem?_eq_none k] at h
  have key : ∀ (l : List Bool) (i : Nat), l[i]? = some false → (l.set i true).count false + 1 = l.count false := by
    intro l
    induction l with
    | nil => intro i h; simp at h
    | cons x l ih =>
      intro i h
      cases i with
      | zero => simp at h; subst h; simp
      | succ i =>
        simp only [List.getElem?_cons_succ] at h
        have := ih i h
        simp only [List.set_cons_succ, List.count_cons]
        omega
  unfold left
  rw [Array.toList_setIfInBounds]
  refine key _ i ?_
  simp [hlt] at h
  rw [Array.getElem?_toList, Array.getElem?_eq_getElem hlt, h]

theorem ready_left {ops : Array Oper} {listed : Array Bool} (h : left listed = 0) : Region.ready .any ops listed = [] := by
  cases hr : Region.ready .any ops listed with
  | nil => rfl
  | cons i l =>
    have hi : i ∈ Region.ready .any ops listed := by rw [hr]; exact .head _
    have := left_set (mem_ready.1 hi).1
    omega

theorem load_LV (hf : FitsE s bs a) {t : TypeId} {x : Operand} (e : o.op = .load t x) (h : stepOp C wrt s o u K) : LV C s o u K bs a := by
  unfold stepOp at h
  rw [e] at h
  simp only at h
  split at h
  · rename_i i off sh hx hsh
    split at h
    · rename_i cs hl
      split at h
      · rename_i hb; exact s_loadLoc hf e hx hsh hl (Nat.le_of_ble_eq_true hb) h
      · exact h.elim
    · exact h.elim
  · rename_i p sh hx hsh; exact s_loadPtr hf e hx hsh h
  · exact h.elim

theorem find_some {l : List Nat} {p : Nat → Bool} {i : Nat} (h : l.find? p = some i) : i ∈ l ∧ p i = true :=
  ⟨List.mem_of_find?_eq_some h, List.find?_some h⟩

theorem draw_sound (hG : Good C) {ops : Array Oper} {ds : Nat → Bool} {u0 : H} {loc0 : List (List Value)} {bs0 : List Nat} (hsel : Region.noSelect ops = true)
    (hQ : ∀ c a w, ¬ Q (.panic c) a w) (hd : ∀ (o : Oper), o ∈ ops.toList → ∀ d, o.dst = some d → ds d = true) :
    ∀ (f : Nat) (listed : Array Bool) (flag : Bool) (s : St) (u : H), drawW C wrt ops u0 f listed flag s u K → ∀ (bs : List Nat) (a : Act) (w : World) (g : Nat), Fits s bs u a w →
      Closed ops listed → left listed ≤ g → (flag = true → u0.le u ∧ s.loc = loc0 ∧ bs = bs0) → (∃ ext, bs = bs0 ++ ext) → Cont wrt s bs u a w ds K (Q .normal) →
      wpAnyG C.P ops Q (ndOf ops) (FitsW loc0 bs0 u0) g listed a w := by
  intro f
  induction f with
  | zero => intro listed flag s u h; exact h.elim
  | succ f ih =>
    intro listed flag s u h bs a w g hf hc hg hflag hpre hcont
    have hfr : ∀ (i : Nat) (o : Oper), ops[i]? = some o → ∀ v, ∀ d, ds d = false → (a.put o.dst v).tmps[d]? = a.tmps[d]? := fun i o ho v =>
      put_frame (hd o (by rw [Array.mem_toList_iff]; exact Array.mem_of_getElem? ho))
    unfold drawW at h
    split at h
    · -- one that hangs on the slots alone
      rename_i i hfind
      obtain ⟨hi, hp⟩ := find_some hfind
      simp only [Bool.and_eq_true] at hp
      have hl := left_set (mem_ready.1 hi).1
      obtain ⟨g, rfl⟩ : ∃ m, g = m + 1 := ⟨g - 1, by omega⟩
      unfold execP at h
      split at h
      · exact h.elim
      · rename_i oi hoi
        obtain ⟨s', want, h', ht, hw⟩ := guardW_spec h hf.toFitsE
        have hf1 := hf.told ht
        have fin : ∀ y v, conc bs y = some v → drawW C wrt ops u0 f (listed.setIfInBounds i true) flag (s'.put oi.dst y) u K → YieldsIf C.P ops (fun _ => True) oi v a →
            wpAnyG C.P ops Q (ndOf ops) (FitsW loc0 bs0 u0) (g + 1) listed a w := by
          intro y v hcy hK hy
          refine anyG_first hoi (Region.noSelect_spec hsel) hQ 0 (T := fun _ => True) (.inl fun _ => trivial) g listed a w hc (fun j oj hj hne hun hno => Region.free_spec hoi hp.2 j oj hj hne hun hno) hi hy trivial ?_
          have hfp := hf1.put oi.dst hcy
          refine ih _ flag _ u hK bs _ w g hfp (hc.set hi) (by omega) ?_ hpre ?_
          · intro hfl
            obtain ⟨e1, e2, e3⟩ := hflag hfl
            exact ⟨e1, by rw [(put_loc _ _ _).1, ht.loc]; exact e2, e3⟩
          · exact hcont.next (Step.refl hf.sub) ((Kept.put wrt s' _ _).told ⟨ht.loc, ht.n⟩) (hfr i oi hoi v)
        cases want with
        | true =>
          simp only at h'
          split at h'
          · rename_i hpp
            obtain ⟨y, v, hK, hcy, hr⟩ := pure_sound hG ht.e hpp h'
            exact fin y v hcy hK (.inl ⟨hw, fun w' _ => hr w'⟩)
          · exact h'.elim
        | false => exact fin (.v undef) undef rfl h' (.inr ⟨hw, rfl⟩)
    · split at h
      · -- a read that waits for nobody who writes
        rename_i i hfind
        obtain ⟨hi, hp⟩ := find_some hfind
        simp only [Bool.and_eq_true] at hp
        have hl := left_set (mem_ready.1 hi).1
        obtain ⟨g, rfl⟩ : ∃ m, g = m + 1 := ⟨g - 1, by omega⟩
        obtain ⟨hle0, hloc, hbs⟩ := hflag rfl
        unfold execW at h
        split at h
        · exact h.elim
        · rename_i oi hoi
          obtain ⟨s', want, h', ht, hw⟩ := guardW_spec h hf.toFitsE
          have hf1 := hf.told ht
          have hSw : FitsW loc0 bs0 u0 w := by rw [← hloc, ← hbs]; exact ⟨hf.loc, hf.sub.mono hle0⟩
          have hearly := hp.1
          have hload : ∃ t x, oi.op = .load t x := by
            unfold early isLoad at hearly
            rw [hoi] at hearly
            simp only [Bool.and_eq_true] at hearly
            have h1 := hearly.1
            split at h1
            · rename_i t x e; exact ⟨t, x, e⟩
            · cases h1
          have hT : ∀ j, ndOf ops j = false → j = i ∨ waits ops ops.size j i = true := by
            intro j hj
            unfold ndOf at hj
            have hlt : i < ops.size := (Array.getElem?_eq_some_iff.1 hoi).1
            have := List.any_eq_false.1 hj i (List.mem_range.2 hlt)
            simp only [Bool.and_eq_true, Bool.not_eq_true', not_and, Bool.not_eq_false] at this
            by_cases hji : j = i
            · exact .inl hji
            · refine .inr (this ⟨hearly, ?_⟩)
              cases hb : Nat.beq i j with
              | false => rfl
              | true => exact absurd (Nat.eq_of_beq_eq_true hb).symm hji
          have fin : ∀ y v, conc bs y = some v → drawW C wrt ops u0 f (listed.setIfInBounds i true) true (s'.put oi.dst y) u K → YieldsIf C.P ops (FitsW loc0 bs0 u0) oi v a →
              wpAnyG C.P ops Q (ndOf ops) (FitsW loc0 bs0 u0) (g + 1) listed a w := by
            intro y v hcy hK hy
            refine anyG_first hoi (Region.noSelect_spec hsel) hQ ops.size (T := FitsW loc0 bs0 u0) (.inr ⟨rfl, hT⟩) g listed a w hc (fun j oj hj hne hun hno => Region.free_spec hoi hp.2 j oj hj hne hun hno) hi hy hSw ?_
            have hfp := hf1.put oi.dst hcy
            refine ih _ true _ u hK bs _ w g hfp (hc.set hi) (by omega) ?_ hpre ?_
            · exact fun _ => ⟨hle0, by rw [(put_loc _ _ _).1, ht.loc]; exact hloc, hbs⟩
            · exact hcont.next (Step.refl hf.sub) ((Kept.put wrt s' _ _).told ⟨ht.loc, ht.n⟩) (hfr i oi hoi v)
          cases want with
          | true =>
            obtain ⟨t, x, e⟩ := hload
            obtain ⟨y, v, hK, hcy, hr⟩ := load_LV ht.e e h'
            exact fin y v hcy hK (.inl ⟨hw, fun w' hw' => hr w' (by rw [ht.loc, hloc, hbs]; exact hw')⟩)
          | false => exact fin (.v undef) undef rfl h' (.inr ⟨hw, rfl⟩)
      · -- whoever may come up
        cases hrs : Region.ready .any ops listed with
        | nil =>
          have hrd := hrs
          rw [hrs] at h
          have hQn := hcont s u bs a w h hf (Step.refl hf.sub) (Kept.refl _ _) fun _ _ => rfl
          cases g with
          | zero => exact ⟨hrd, hQn⟩
          | succ g => exact ⟨fun _ => hQn, by rw [hrd]; intro i hi; cases hi⟩
        | cons i0 l0 =>
          have hne : Region.ready .any ops listed ≠ [] := by rw [hrs]; simp
          rw [hrs] at h
          simp only at h
          have hg1 : ∃ m, g = m + 1 := by
            cases g with
            | zero => exact absurd (ready_left (ops := ops) (by omega)) hne
            | succ m => exact ⟨m, rfl⟩
          obtain ⟨g, rfl⟩ := hg1
          refine ⟨fun e => absurd e hne, fun i hi => ?_⟩
          have hl := left_set (mem_ready.1 hi).1
          have h1 := allI_spec h i (by rw [← hrs]; exact hi)
          unfold wpOp
          have step : ∀ (wt : Nat → Bool) (K' : St → H → Prop), (∀ s1 s2, Kept wt s1 s2 → Kept wrt s1 s2) → execW C wt ops s i u K' →
              (∀ oi, ops[i]? = some oi → ∀ a' w', After wt K' s bs u a w oi.dst a' w' → (ndOf ops i = true → FitsW loc0 bs0 u0 w → FitsW loc0 bs0 u0 w') ∧ wpAnyG C.P ops Q (ndOf ops) (FitsW loc0 bs0 u0) g (listed.setIfInBounds i true) a' w') →
              (match ops[i]? with
                | none => (ndOf ops i = true → FitsW loc0 bs0 u0 w → FitsW loc0 bs0 u0 w) ∧ wpAnyG C.P ops Q (ndOf ops) (FitsW loc0 bs0 u0) g (listed.setIfInBounds i true) a w
                | some o => if Region.wanted o (yielded ops a.tmps) = true then (o.wp C.P a w (fun a' w' => (ndOf ops i = true → FitsW loc0 bs0 u0 w → FitsW loc0 bs0 u0 w') ∧ wpAnyG C.P ops Q (ndOf ops) (FitsW loc0 bs0 u0) g (listed.setIfInBounds i true) a' w') Q) ∨ (o.asks C.P a w ∧ LetsOut Q)
                  else (ndOf ops i = true → FitsW loc0 bs0 u0 w → FitsW loc0 bs0 u0 w) ∧ wpAnyG C.P ops Q (ndOf ops) (FitsW loc0 bs0 u0) g (listed.setIfInBounds i true) (a.put o.dst undef) w) := by
            intro wt K' _ hx hnext
            unfold execW at hx
            split at hx
            · exact hx.elim
            · rename_i oi hoi
              try rw [hoi]
              show (if Region.wanted oi (yielded ops a.tmps) = true then _ else _)
              rcases exec_sound (Q := Q) hG hf hx with ⟨hw, h2⟩ | ⟨hw, h2⟩
              · rw [if_pos hw]
                exact .inl (Oper.wp_mono (hnext oi hoi) h2)
              · rw [if_neg (by rw [hw]; simp)]
                exact hnext oi hoi _ _ h2
          split at h1
          · rename_i hnd
            refine step noWrite _ (fun s1 s2 k => ⟨k.n, k.len, fun i cs e _ => k.same i cs e rfl⟩) h1 ?_
            rintro oi hoi a' w' ⟨s', u', bs', v, ⟨hle, hK⟩, hf', hs, rfl, hkp⟩
            obtain ⟨ext, hext⟩ := hpre
            obtain ⟨ext2, hext2, _⟩ := hs.more
            have hkp' : Kept wrt s s' := ⟨hkp.n, hkp.len, fun i cs e _ => hkp.same i cs e rfl⟩
            refine ⟨fun _ hS => ⟨fun j cs e => ?_, hf'.sub.mono hle⟩, ih _ false s' u' hK bs' _ w' g hf' (hc.set hi) (by omega) (fun e => by cases e) ⟨ext ++ ext2, by rw [hext2, hext, List.append_assoc]⟩ (hcont.next hs hkp' (hfr i oi hoi v))⟩
            obtain ⟨b, T, hb1, hb2⟩ := hS.loc j cs e
            have hjl : j < bs0.length := by
              rcases Nat.lt_or_ge j bs0.length with k | k
              · exact k
              · rw [List.getElem?_eq_none k] at hb1; cases hb1
            have hb3 : bs[j]? = some b := by rw [hext, List.getElem?_append_left hjl]; exact hb1
            have hjs : j < s.loc.length := by
              rw [← hf.len]
              rcases Nat.lt_or_ge j bs.length with k | k
              · exact k
              · rw [List.getElem?_eq_none k] at hb3; cases hb3
            obtain ⟨b', T', h5, h6⟩ := hf.loc j _ (List.getElem?_eq_getElem hjs)
            rw [hb3] at h5; cases h5
            rw [hb2] at h6
            simp only [Option.some.injEq, Obj.cells.injEq] at h6
            have hcs : cs = s.loc[j] := by
              have := congrArg Array.toList h6.1
              simpa using this
            have h7 := hkp.same j _ (List.getElem?_eq_getElem hjs) rfl
            obtain ⟨b2, T2, h8, h9⟩ := hf'.loc j _ h7
            refine ⟨b, T2, hb1, ?_⟩
            have hjb : j < bs.length := by rw [hf.len]; exact hjs
            rw [hext2, List.getElem?_append_left hjb, hb3] at h8
            cases h8
            rw [hcs]; exact h9
          · rename_i hnd
            refine step wrt _ (fun _ _ k => k) h1 ?_
            rintro oi hoi a' w' ⟨s', u', bs', v, hK, hf', hs, rfl, hkp⟩
            obtain ⟨ext, hext⟩ := hpre
            obtain ⟨ext2, hext2, _⟩ := hs.more
            exact ⟨(fun e => by rw [hnd] at e; cases e), ih _ false s' u' hK bs' _ w' g hf' (hc.set hi) (by omega) (fun e => by cases e) ⟨ext ++ ext2, by rw [hext2, hext, List.append_assoc]⟩ (hcont.next hs hkp (hfr i oi hoi v))⟩


/-- What a step of operation i leaves. -/
def RelP (ops : Array Oper) (loc0 : List (List Value)) (bs0 : List Nat) (v0 u0 : H) (i : Nat) (w w' : World) : Prop :=
  (nd1Of ops i = true → FitsW loc0 bs0 v0 w → FitsW loc0 bs0 v0 w') ∧ (nd2Of ops i = true → FitsW loc0 bs0 u0 w → FitsW loc0 bs0 u0 w')

theorem RelP.refl {ops : Array Oper} {loc0 : List (List Value)} {bs0 : List Nat} {v0 u0 : H} (i : Nat) (w : World) : RelP ops loc0 bs0 v0 u0 i w w := ⟨fun _ h => h, fun _ h => h⟩

theorem drawP_sound (hG : Good C) {ops : Array Oper} {ds : Nat → Bool} {v0 u0 : H} {loc0 : List (List Value)} {bs0 : List Nat} (hv0 : v0.le u0) (hsel : Region.noSelect ops = true)
    (hQ : ∀ c a w, ¬ Q (.panic c) a w) (hd : ∀ (o : Oper), o ∈ ops.toList → ∀ d, o.dst = some d → ds d = true) :
    ∀ (f : Nat) (listed : Array Bool) (flag : Bool) (s : St) (u : H), drawP C wrt ops v0 u0 f listed flag s u K → ∀ (bs : List Nat) (a : Act) (w : World) (g : Nat), Fits s bs u a w →
      Closed ops listed → left listed ≤ g → (flag = true → u0.le u ∧ s.loc = loc0 ∧ bs = bs0) → (∃ ext, bs = bs0 ++ ext) → Cont wrt s bs u a w ds K (Q .normal) →
      wpAnyR C.P ops Q (RelP ops loc0 bs0 v0 u0) g listed a w := by
  intro f
  induction f with
  | zero => intro listed flag s u h; exact h.elim
  | succ f ih =>
    intro listed flag s u h bs a w g hf hc hg hflag hpre hcont
    have hfr : ∀ (i : Nat) (o : Oper), ops[i]? = some o → ∀ v, ∀ d, ds d = false → (a.put o.dst v).tmps[d]? = a.tmps[d]? := fun i o ho v =>
      put_frame (hd o (by rw [Array.mem_toList_iff]; exact Array.mem_of_getElem? ho))
    unfold drawP at h
    split at h
    · -- one that hangs on the slots alone
      rename_i i hfind
      obtain ⟨hi, hp⟩ := find_some hfind
      simp only [Bool.and_eq_true] at hp
      have hl := left_set (mem_ready.1 hi).1
      obtain ⟨g, rfl⟩ : ∃ m, g = m + 1 := ⟨g - 1, by omega⟩
      unfold execP at h
      split at h
      · exact h.elim
      · rename_i oi hoi
        obtain ⟨s', want, h', ht, hw⟩ := guardW_spec h hf.toFitsE
        have hf1 := hf.told ht
        have fin : ∀ y v, conc bs y = some v → drawP C wrt ops v0 u0 f (listed.setIfInBounds i true) flag (s'.put oi.dst y) u K → YieldsIf C.P ops (fun _ => True) oi v a →
            wpAnyR C.P ops Q (RelP ops loc0 bs0 v0 u0) (g + 1) listed a w := by
          intro y v hcy hK hy
          refine anyR_first hoi (Region.noSelect_spec hsel) hQ 0 (T := fun _ => True) (fun w => RelP.refl _ w) (fun j => .inr (.inr fun _ _ _ _ => trivial)) g listed a w hc (fun j oj hj hne hun hno => Region.free_spec hoi hp.2 j oj hj hne hun hno) hi hy trivial ?_
          have hfp := hf1.put oi.dst hcy
          refine ih _ flag _ u hK bs _ w g hfp (hc.set hi) (by omega) ?_ hpre ?_
          · intro hfl
            obtain ⟨e1, e2, e3⟩ := hflag hfl
            exact ⟨e1, by rw [(put_loc _ _ _).1, ht.loc]; exact e2, e3⟩
          · exact hcont.next (Step.refl hf.sub) ((Kept.put wrt s' _ _).told ⟨ht.loc, ht.n⟩) (hfr i oi hoi v)
        cases want with
        | true =>
          simp only at h'
          split at h'
          · rename_i hpp
            obtain ⟨y, v, hK, hcy, hr⟩ := pure_sound hG ht.e hpp h'
            exact fin y v hcy hK (.inl ⟨hw, fun w' _ => hr w'⟩)
          · exact h'.elim
        | false => exact fin (.v undef) undef rfl h' (.inr ⟨hw, rfl⟩)
    · split at h
      · -- a read that waits for nobody who writes
        rename_i i hfind
        obtain ⟨hi, hp⟩ := find_some hfind
        simp only [Bool.and_eq_true] at hp
        have hl := left_set (mem_ready.1 hi).1
        obtain ⟨g, rfl⟩ : ∃ m, g = m + 1 := ⟨g - 1, by omega⟩
        obtain ⟨hle0, hloc, hbs⟩ := hflag rfl
        have hearly := hp.1
        -- whatever part x of what is known it is read by
        have key : ∀ x : H, x.le u → (∀ j, j = i ∨ waits ops ops.size j i = true ∨ ∀ w w', RelP ops loc0 bs0 v0 u0 j w w' → FitsW loc0 bs0 x w → FitsW loc0 bs0 x w') →
            execW C wrt ops s i x (fun s' _ => drawP C wrt ops v0 u0 f (listed.setIfInBounds i true) true s' u K) → wpAnyR C.P ops Q (RelP ops loc0 bs0 v0 u0) (g + 1) listed a w := by
          intro x hxu hT h
          unfold execW at h
          split at h
          · exact h.elim
          · rename_i oi hoi
            obtain ⟨s', want, h', ht, hw⟩ := guardW_spec h hf.toFitsE
            have hf1 := hf.told ht
            have hSw : FitsW loc0 bs0 x w := by rw [← hloc, ← hbs]; exact ⟨hf.loc, hf.sub.mono hxu⟩
            have hload : ∃ t x, oi.op = .load t x := by
              unfold early isLoad at hearly
              rw [hoi] at hearly
              simp only [Bool.and_eq_true] at hearly
              have h1 := hearly.1
              split at h1
              · rename_i t x e; exact ⟨t, x, e⟩
              · cases h1
            have fin : ∀ y v, conc bs y = some v → drawP C wrt ops v0 u0 f (listed.setIfInBounds i true) true (s'.put oi.dst y) u K → YieldsIf C.P ops (FitsW loc0 bs0 x) oi v a →
                wpAnyR C.P ops Q (RelP ops loc0 bs0 v0 u0) (g + 1) listed a w := by
              intro y v hcy hK hy
              refine anyR_first hoi (Region.noSelect_spec hsel) hQ ops.size (T := FitsW loc0 bs0 x) (fun w => RelP.refl _ w) hT g listed a w hc (fun j oj hj hne hun hno => Region.free_spec hoi hp.2 j oj hj hne hun hno) hi hy hSw ?_
              have hfp := hf1.put oi.dst hcy
              refine ih _ true _ u hK bs _ w g hfp (hc.set hi) (by omega) ?_ hpre ?_
              · exact fun _ => ⟨hle0, by rw [(put_loc _ _ _).1, ht.loc]; exact hloc, hbs⟩
              · exact hcont.next (Step.refl hf.sub) ((Kept.put wrt s' _ _).told ⟨ht.loc, ht.n⟩) (hfr i oi hoi v)
            cases want with
            | true =>
              obtain ⟨t, y0, e⟩ := hload
              obtain ⟨y, v, hK, hcy, hr⟩ := load_LV ht.e e h'
              exact fin y v hcy hK (.inl ⟨hw, fun w' hw' => hr w' (by rw [ht.loc, hloc, hbs]; exact hw')⟩)
            | false => exact fin (.v undef) undef rfl h' (.inr ⟨hw, rfl⟩)
        have hlt : i < ops.size := by
          unfold early isLoad at hearly
          rcases Nat.lt_or_ge i ops.size with k | k
          · exact k
          · rw [Array.getElem?_eq_none k] at hearly; simp at hearly
        have beq : ∀ j, (!(Nat.beq i j)) = false → j = i := fun j hb => by
          cases hx : Nat.beq i j with
          | false => rw [hx] at hb; cases hb
          | true => exact (Nat.eq_of_beq_eq_true hx).symm
        split at h
        · rename_i hs
          refine key u0 hle0 (fun j => ?_) h
          by_cases hn : nd2Of ops j = true
          · exact .inr (.inr fun w w' hr => hr.2 hn)
          · have hn' : nd2Of ops j = false := by cases hx : nd2Of ops j with
              | false => rfl
              | true => exact absurd hx hn
            unfold nd2Of at hn'
            have := List.any_eq_false.1 hn' i (List.mem_range.2 hlt)
            simp only [hs, Bool.true_and, Bool.and_eq_true, not_and, Bool.not_eq_true', Bool.not_eq_false] at this
            by_cases hji : j = i
            · exact .inl hji
            · refine .inr (.inl (this ?_))
              cases hb : Nat.beq i j with
              | false => rfl
              | true => exact absurd (Nat.eq_of_beq_eq_true hb).symm hji
        · rename_i hs
          refine key v0 (hv0.trans hle0) (fun j => ?_) h
          by_cases hn : nd1Of ops j = true
          · exact .inr (.inr fun w w' hr => hr.1 hn)
          · have hn' : nd1Of ops j = false := by cases hx : nd1Of ops j with
              | false => rfl
              | true => exact absurd hx hn
            unfold nd1Of at hn'
            have := List.any_eq_false.1 hn' i (List.mem_range.2 hlt)
            simp only [hs, hearly, Bool.not_false, Bool.true_and, Bool.and_eq_true, not_and, Bool.not_eq_true', Bool.not_eq_false] at this
            by_cases hji : j = i
            · exact .inl hji
            · refine .inr (.inl (this ?_))
              cases hb : Nat.beq i j with
              | false => rfl
              | true => exact absurd (Nat.eq_of_beq_eq_true hb).symm hji
      · -- whoever may come up
        cases hrs : Region.ready .any ops listed with
        | nil =>
          have hrd := hrs
          rw [hrs] at h
          have hQn := hcont s u bs a w h hf (Step.refl hf.sub) (Kept.refl _ _) fun _ _ => rfl
          cases g with
          | zero => exact ⟨hrd, hQn⟩
          | succ g => exact ⟨fun _ => hQn, by rw [hrd]; intro i hi; cases hi⟩
        | cons i0 l0 =>
          have hne : Region.ready .any ops listed ≠ [] := by rw [hrs]; simp
          rw [hrs] at h
          simp only at h
          have hg1 : ∃ m, g = m + 1 := by
            cases g with
            | zero => exact absurd (ready_left (ops := ops) (by omega)) hne
            | succ m => exact ⟨m, rfl⟩
          obtain ⟨g, rfl⟩ := hg1
          refine ⟨fun e => absurd e hne, fun i hi => ?_⟩
          have hl := left_set (mem_ready.1 hi).1
          have h1 := allI_spec h i (by rw [← hrs]; exact hi)
          unfold wpOp
          have step : ∀ (wt : Nat → Bool) (K' : St → H → Prop), (∀ s1 s2, Kept wt s1 s2 → Kept wrt s1 s2) → execW C wt ops s i u K' →
              (∀ oi, ops[i]? = some oi → ∀ a' w', After wt K' s bs u a w oi.dst a' w' → RelP ops loc0 bs0 v0 u0 i w w' ∧ wpAnyR C.P ops Q (RelP ops loc0 bs0 v0 u0) g (listed.setIfInBounds i true) a' w') →
              (match ops[i]? with
                | none => RelP ops loc0 bs0 v0 u0 i w w ∧ wpAnyR C.P ops Q (RelP ops loc0 bs0 v0 u0) g (listed.setIfInBounds i true) a w
                | some o => if Region.wanted o (yielded ops a.tmps) = true then (o.wp C.P a w (fun a' w' => RelP ops loc0 bs0 v0 u0 i w w' ∧ wpAnyR C.P ops Q (RelP ops loc0 bs0 v0 u0) g (listed.setIfInBounds i true) a' w') Q) ∨ (o.asks C.P a w ∧ LetsOut Q)
                  else RelP ops loc0 bs0 v0 u0 i w w ∧ wpAnyR C.P ops Q (RelP ops loc0 bs0 v0 u0) g (listed.setIfInBounds i true) (a.put o.dst undef) w) := by
            intro wt K' _ hx hnext
            unfold execW at hx
            split at hx
            · exact hx.elim
            · rename_i oi hoi
              try rw [hoi]
              show (if Region.wanted oi (yielded ops a.tmps) = true then _ else _)
              rcases exec_sound (Q := Q) hG hf hx with ⟨hw, h2⟩ | ⟨hw, h2⟩
              · rw [if_pos hw]
                exact .inl (Oper.wp_mono (hnext oi hoi) h2)
              · rw [if_neg (by rw [hw]; simp)]
                exact hnext oi hoi _ _ h2
          split at h1
          · rename_i hnd
            refine step noWrite _ (fun s1 s2 k => ⟨k.n, k.len, fun i cs e _ => k.same i cs e rfl⟩) h1 ?_
            rintro oi hoi a' w' ⟨s', u', bs', v, hb1, hf', hs, rfl, hkp⟩
            have hb2 := impB_2 hb1
            have hK := impB_2 hb2
            obtain ⟨ext, hext⟩ := hpre
            obtain ⟨ext2, hext2, _⟩ := hs.more
            have hkp' : Kept wrt s s' := ⟨hkp.n, hkp.len, fun i cs e _ => hkp.same i cs e rfl⟩
            have stay : ∀ x : H, x.le u' → FitsW loc0 bs0 x w → FitsW loc0 bs0 x w' := by
              intro x hle hS
              refine ⟨fun j cs e => ?_, hf'.sub.mono hle⟩
              obtain ⟨b, T, hb1, hb2⟩ := hS.loc j cs e
              have hjl : j < bs0.length := by
                rcases Nat.lt_or_ge j bs0.length with k | k
                · exact k
                · rw [List.getElem?_eq_none k] at hb1; cases hb1
              have hb3 : bs[j]? = some b := by rw [hext, List.getElem?_append_left hjl]; exact hb1
              have hjs : j < s.loc.length := by
                rw [← hf.len]
                rcases Nat.lt_or_ge j bs.length with k | k
                · exact k
                · rw [List.getElem?_eq_none k] at hb3; cases hb3
              obtain ⟨b', T', h5, h6⟩ := hf.loc j _ (List.getElem?_eq_getElem hjs)
              rw [hb3] at h5; cases h5
              rw [hb2] at h6
              simp only [Option.some.injEq, Obj.cells.injEq] at h6
              have hcs : cs = s.loc[j] := by
                have := congrArg Array.toList h6.1
                simpa using this
              have h7 := hkp.same j _ (List.getElem?_eq_getElem hjs) rfl
              obtain ⟨b2, T2, h8, h9⟩ := hf'.loc j _ h7
              refine ⟨b, T2, hb1, ?_⟩
              have hjb : j < bs.length := by rw [hf.len]; exact hjs
              rw [hext2, List.getElem?_append_left hjb, hb3] at h8
              cases h8
              rw [hcs]; exact h9
            exact ⟨⟨fun hn => stay v0 (impB_1 hb1 hn), fun hn => stay u0 (impB_1 hb2 hn)⟩, ih _ false s' u' hK bs' _ w' g hf' (hc.set hi) (by omega) (fun e => by cases e) ⟨ext ++ ext2, by rw [hext2, hext, List.append_assoc]⟩ (hcont.next hs hkp' (hfr i oi hoi v))⟩
          · rename_i hnd
            refine step wrt _ (fun _ _ k => k) h1 ?_
            rintro oi hoi a' w' ⟨s', u', bs', v, hK, hf', hs, rfl, hkp⟩
            obtain ⟨ext, hext⟩ := hpre
            obtain ⟨ext2, hext2, _⟩ := hs.more
            rw [Bool.or_eq_false_iff] at hnd
            exact ⟨⟨fun e => (by rw [hnd.1] at e; cases e), fun e => (by rw [hnd.2] at e; cases e)⟩, ih _ false s' u' hK bs' _ w' g hf' (hc.set hi) (by omega) (fun e => by cases e) ⟨ext ++ ext2, by rw [hext2, hext, List.append_assoc]⟩ (hcont.next hs hkp (hfr i oi hoi v))⟩

end
end Go.Proofs.YtbohcdjoglidhaaGreatDoor

/- VcCode -/
namespace Go.Proofs.YtbohcdjoglidhaaGreatDoor

/-- Slots and boxes that are told anew where ways meet, or at a loop's head. -/
structure Ann where
  slots : List (Nat × CT)
  boxes : List (Nat × List CT)

def Ann.tys (a : Ann) : List CT := a.slots.map (·.2) ++ a.boxes.flatMap (·.2)

def annAt : List (Nat × Ann) → Nat → Option Ann
  | [], _ => none
  | (i, x) :: r, j => match Nat.beq i j with
    | true => some x
    | false => annAt r j

def codeDsts : Code → List Nat
  | .seq a b => codeDsts a ++ codeDsts b
  | .cond _ a b => codeDsts a ++ codeDsts b
  | .block _ b => codeDsts b
  | .loop b => codeDsts b
  | .scope b => codeDsts b
  | .region _ ops _ => ops.toList.filterMap fun o => o.dst
  | _ => []

def slotVals (s : St) : List (Nat × CT) → Option (List Value)
  | [] => some []
  | (d, _) :: r => match (look s.env d).bind SV.val, slotVals s r with
    | some v, some vs => some (v :: vs)
    | _, _ => none

def boxVals (s : St) : List (Nat × List CT) → Option (List Value)
  | [] => some []
  | (i, ts) :: r => match s.loc[i]?, boxVals s r with
    | some cs, some vs => match Nat.beq cs.length ts.length with
      | true => some (cs ++ vs)
      | false => none
    | _, _ => none

def valsAt (s : St) (an : Ann) : Option (List Value) :=
  match s.dfs with
  | none => match slotVals s an.slots, boxVals s an.boxes with
    | some a, some b => some (a ++ b)
    | _, _ => none
  | some _ => none

/-- Slots whose values are known. -/
def envVals : List (Nat × SV) → List (Nat × Value)
  | [] => []
  | (d, x) :: r => match x.val with
    | some v => (d, v) :: envVals r
    | none => envVals r

/-- A statement that the formula does not look into: it is left at its end, its temporaries as they were; D: its mark. -/
def RgS (P : Program) (c : Code) (n : Nat) (env : List (Nat × Value)) (u : H) (K : Nat → H → Prop) : Prop :=
  ∀ a w, a.tmps.size = n → (∀ p ∈ env, a.tmps[p.1]? = some p.2) → a.defers = [] → Sub u w →
    c.wp P (fun e a' w' => e = .normal ∧ a'.tmps = a.tmps ∧ ∃ D u', a'.defers = dfsOf (some D) ∧ K D u' ∧ Step u [] w u' [] w') a w

/-- A pointer that is told to lead somewhere. -/
def svOf : CT → Value → SV
  | .addr, .pointer (some p) => .ptr p
  | _, v => .v v

theorem svOf_conc (t : CT) (v : Value) (bs : List Nat) : conc bs (svOf t v) = some v := by
  unfold svOf
  split <;> rfl

def zipSlots : List (Nat × CT) → List Value → List (Nat × SV)
  | (d, t) :: r, v :: vs => (d, svOf t v) :: zipSlots r vs
  | _, _ => []

def setBoxes : List (List Value) → List (Nat × List CT) → List Value → List (List Value)
  | loc, [], _ => loc
  | loc, (i, ts) :: r, vs => setBoxes (setL loc i (vs.take ts.length)) r (vs.drop ts.length)

def keepEnv (ds : List Nat) : List (Nat × SV) → List (Nat × SV)
  | [] => []
  | (d, x) :: r => match memB ds d with
    | true => keepEnv ds r
    | false => (d, x) :: keepEnv ds r

/-- The state told anew. -/
def anew (s : St) (ds : List Nat) (an : Ann) (vs : List Value) : St :=
  { n := s.n, env := zipSlots an.slots vs ++ keepEnv ds s.env, loc := setBoxes s.loc an.boxes (vs.drop an.slots.length) }

def narrow (wrt : Nat → Bool) (cnt : Nat) (bx : List (Nat × List CT)) (i : Nat) : Bool :=
  match Nat.blt i cnt with
  | true => memB (bx.map (·.1)) i && wrt i
  | false => true

def tellC (s : St) (c : Operand) (x : SV) : St :=
  match c with
  | .tmp t => s.put (some t) x
  | _ => s

def WPc (C : Cfg) (ann : List (Nat × Ann)) : Code → Nat → (Nat → Bool) → (Exit → St → H → Prop) → St → H → Prop
  | .skip, _, _, Q, s, u => Q .normal s u
  | .label _, _, _, Q, s, u => Q .normal s u
  | .ret, _, _, Q, s, u => Q .ret s u
  | .exit id, _, _, Q, s, u => Q (.exit id) s u
  | .seq x y, p, wrt, Q, s, u => match annAt ann p with
    | none => WPc C ann x (2 * p) wrt (fun e s' u' => match e with
      | .normal => WPc C ann y (2 * p + 1) wrt Q s' u'
      | e => Q e s' u') s u
    | some an => ∀ K : Cur an.tys (H → Prop),
        allC an.tys (fun vs => ∀ u1, WPc C ann y (2 * p + 1) wrt Q (anew s (codeDsts x) an vs) u1 → unC an.tys K vs fun r => r u1) →
        WPc C ann x (2 * p) (narrow wrt s.loc.length an.boxes) (fun e s' u' => match e with
          | .normal => match valsAt s' an with
            | some vs => unC an.tys K vs fun r => r u'
            | none => False
          | e => Q e s' u') s u
  | .cond c x y, p, wrt, Q, s, u => match s.sv c with
    | some .tt => WPc C ann x (2 * p) wrt Q s u
    | some .ff => WPc C ann y (2 * p + 1) wrt Q s u
    | some (.dec q _) => (q → WPc C ann x (2 * p) wrt Q (tellC s c .tt) u) ∧ (¬ q → WPc C ann y (2 * p + 1) wrt Q (tellC s c .ff) u)
    | some (.ndec q _) => (¬ q → WPc C ann x (2 * p) wrt Q (tellC s c .tt) u) ∧ (q → WPc C ann y (2 * p + 1) wrt Q (tellC s c .ff) u)
    | some (.v (.bool b)) => (b = true → WPc C ann x (2 * p) wrt Q (tellC s c .tt) u) ∧ (b = false → WPc C ann y (2 * p + 1) wrt Q (tellC s c .ff) u)
    | _ => False
  | .block id b, p, wrt, Q, s, u => WPc C ann b (2 * p) wrt (fun e s' u' => match e with
    | .exit j => match Nat.beq j id with
      | true => Q .normal s' u'
      | false => Q (.exit j) s' u'
    | e => Q e s' u') s u
  | .scope b, p, wrt, Q, s, u => WPc C ann b (2 * p) wrt (fun e s' u' => match e with
    | .goto _ => False
    | e => Q e s' u') s u
  | .loop b, p, wrt, Q, s, u => match annAt ann p with
    | none => False
    | some an => match valsAt s an with
      | none => False
      | some vs0 => ∃ I : Cur an.tys (H → Prop), ∃ μ : Cur an.tys (H → Nat), (unC an.tys I vs0 fun r => r u) ∧
          allC an.tys fun vs => ∀ u1, (unC an.tys I vs fun r => r u1) →
            WPc C ann b (2 * p) (narrow wrt s.loc.length an.boxes) (fun e s' u' => match e with
              | .normal => match valsAt s' an with
                | some vs' => unC an.tys I vs' fun r => unC an.tys μ vs' fun m => unC an.tys μ vs fun m0 => r u' ∧ m u' < m0 u1
                | none => False
              | e => Q e s' u') (anew s (codeDsts b) an vs) u1
  | .region _ ops false, _, wrt, Q, s, u => seqW C wrt ops ops.toList s u (Q .normal)
  | .rangeFunc g ps x y, _, _, Q, s, u => match s.dfs with
    | none => RgS C.P (.rangeFunc g ps x y) s.n (envVals s.env) u fun D u' => Q .normal { s with dfs := some D } u'
    | some _ => False
  | .region _ ops true, _, wrt, Q, s, u => match Region.noSelect ops with
    | true => match C.part with
      | false => drawW C wrt ops u (ops.size + 1) (Array.replicate ops.size false) true s u (Q .normal)
      | true => ∃ v0 : H, v0.le u ∧ drawP C wrt ops v0 u (ops.size + 1) (Array.replicate ops.size false) true s u (Q .normal)
    | false => False
  | _, _, _, _, _, _ => False

section
variable {C : Cfg} {wrt : Nat → Bool} {s : St} {u : H} {bs : List Nat} {a : Act} {w : World}

def Post (wrt : Nat → Bool) (s : St) (bs : List Nat) (u : H) (a : Act) (w : World) (ds : List Nat) (Q : Exit → St → H → Prop) (e : Exit) (a' : Act) (w' : World) : Prop :=
  (∀ c, e ≠ .panic c) ∧ ∃ s' u' bs', Q e s' u' ∧ Fits s' bs' u' a' w' ∧ Step u bs w u' bs' w' ∧ Kept wrt s s' ∧ ∀ d, memB ds d = false → a'.tmps[d]? = a.tmps[d]?

theorem memB_append (a b : List Nat) (d : Nat) : memB (a ++ b) d = (memB a d || memB b d) := by simp [memB]

theorem Post.mono {ds ds' : List Nat} {Q : Exit → St → H → Prop} {e : Exit} {a' : Act} {w' : World} (h : Post wrt s bs u a w ds Q e a' w') (hd : ∀ d, memB ds' d = false → memB ds d = false) :
    Post wrt s bs u a w ds' Q e a' w' := by
  obtain ⟨h1, s', u', bs', h2, h3, h4, h5, h6⟩ := h
  exact ⟨h1, s', u', bs', h2, h3, h4, h5, fun d h => h6 d (hd d h)⟩

theorem Post.next {s1 : St} {u1 : H} {bs1 : List Nat} {a1 : Act} {w1 : World} {ds : List Nat} {Q : Exit → St → H → Prop} {e : Exit} {a' : Act} {w' : World} (hs : Step u bs w u1 bs1 w1) (hk : Kept wrt s s1)
    (ha : ∀ d, memB ds d = false → a1.tmps[d]? = a.tmps[d]?) (h : Post wrt s1 bs1 u1 a1 w1 ds Q e a' w') : Post wrt s bs u a w ds Q e a' w' := by
  obtain ⟨h1, s', u', bs', h2, h3, h4, h5, h6⟩ := h
  exact ⟨h1, s', u', bs', h2, h3, hs.trans h4, hk.trans h5, fun d h => (h6 d h).trans (ha d h)⟩

/-- Blocks of one's own that are let go. -/
theorem Step.forget {u u' : H} {bs bs' : List Nat} {w w' : World} (h : Step u bs w u' bs' w') : Step u bs w u' bs w' :=
  ⟨h.sub, h.os, h.tape, h.output, h.drawn, h.size, h.rest, h.honest, [], by simp, by simp⟩

theorem slotVals_len {l : List (Nat × CT)} {vs : List Value} (h : slotVals s l = some vs) : vs.length = l.length := by
  induction l generalizing vs with
  | nil => simp [slotVals] at h; subst h; rfl
  | cons p r ih =>
    simp only [slotVals] at h
    split at h
    · rename_i v vs' hv hvs; cases h; simp [ih hvs]
    · cases h

theorem zipSlots_app {l : List (Nat × CT)} {vs ws : List Value} (h : vs.length = l.length) : zipSlots l (vs ++ ws) = zipSlots l vs := by
  induction l generalizing vs with
  | nil =>
    cases vs with
    | nil => cases ws <;> rfl
    | cons => simp at h
  | cons p r ih =>
    cases vs with
    | nil => simp at h
    | cons v vs => simp only [List.cons_append, zipSlots]; rw [ih (by simpa using h)]

theorem zipSlots_env {bs' : List Nat} {l : List (Nat × CT)} {vs : List Value} (hf : FitsE s bs a) (h : slotVals s l = some vs) :
    ∀ p ∈ zipSlots l vs, ∃ v, conc bs' p.2 = some v ∧ a.tmps[p.1]? = some v := by
  induction l generalizing vs with
  | nil => intro p hp; simp [zipSlots] at hp
  | cons q r ih =>
    simp only [slotVals] at h
    split at h
    · rename_i v vs' hv hvs
      cases h
      intro p hp
      simp only [zipSlots] at hp
      cases hp with
      | head =>
        simp only [Option.bind_eq_some_iff] at hv
        obtain ⟨x, hx, hxv⟩ := hv
        obtain ⟨v', h1, h2⟩ := hf.env _ (look_mem hx)
        simp only at h1 h2
        rw [SV.val_conc hxv bs] at h1
        cases h1
        exact ⟨v, svOf_conc _ _ _, h2⟩
      | tail _ hp => exact ih hvs p hp
    · cases h

theorem keepEnv_mem {ds : List Nat} {l : List (Nat × SV)} {p : Nat × SV} (h : p ∈ keepEnv ds l) : p ∈ l ∧ memB ds p.1 = false := by
  induction l with
  | nil => cases h
  | cons q r ih =>
    obtain ⟨d, x⟩ := q
    simp only [keepEnv] at h
    split at h
    · exact ⟨.tail _ (ih h).1, (ih h).2⟩
    · rename_i e
      cases h with
      | head => exact ⟨.head _, e⟩
      | tail _ h => exact ⟨.tail _ (ih h).1, (ih h).2⟩

theorem setBoxes_len : ∀ (bx : List (Nat × List CT)) (loc : List (List Value)) (vs : List Value), (setBoxes loc bx vs).length = loc.length := by
  intro bx
  induction bx with
  | nil => intro loc vs; rfl
  | cons p r ih => intro loc vs; simp only [setBoxes]; rw [ih, setL_len]

/-- Each box told anew holds what it holds; the others are as they were. -/
theorem setBoxes_spec {s' : St} {cnt : Nat} (_hcnt : cnt ≤ s'.loc.length) : ∀ (bx : List (Nat × List CT)) (loc : List (List Value)) (vs : List Value), boxVals s' bx = some vs → loc.length = cnt →
    (∀ (i : Nat) (cs : List Value), loc[i]? = some cs → memB (bx.map (·.1)) i = false → s'.loc[i]? = some cs) → ∀ (i : Nat) (cs : List Value), (setBoxes loc bx vs)[i]? = some cs → s'.loc[i]? = some cs := by
  intro bx
  induction bx with
  | nil => intro loc vs _ _ h i cs e; exact h i cs e rfl
  | cons p r ih =>
    obtain ⟨j, ts⟩ := p
    intro loc vs h hl hk i cs e
    simp only [boxVals] at h
    split at h
    · rename_i cs' vs' hj hvs
      split at h
      · rename_i hlen
        cases h
        have hlen' := Nat.eq_of_beq_eq_true hlen
        simp only [setBoxes] at e
        rw [← hlen', List.take_left, List.drop_left] at e
        refine ih (setL loc j cs') vs' hvs (by rw [setL_len]; exact hl) ?_ i cs e
        intro i' cs2 e2 hm
        rw [setL_get] at e2
        split at e2
        · rename_i hji
          cases e2
          rw [← hji.1]; exact hj
        · rename_i hji
          refine hk i' cs2 e2 ?_
          simp only [List.map_cons, memB, List.any_cons, Bool.or_eq_false_iff]
          refine ⟨?_, hm⟩
          cases hb : Nat.beq i' j with
          | false => rfl
          | true =>
            have := Nat.eq_of_beq_eq_true hb
            subst this
            have hlt : i' < loc.length := by
              rcases Nat.lt_or_ge i' loc.length with k | k
              · exact k
              · rw [List.getElem?_eq_none k] at e2; cases e2
            exact absurd ⟨rfl, hlt⟩ hji
      · cases h
    · cases h

/-- The state told anew fits where the state that was come to fits. -/
theorem Fits.anew {s' : St} {u' : H} {bs' : List Nat} {a' : Act} {w' : World} {ds : List Nat} {an : Ann} {vs : List Value} (hf : Fits s bs u a w) (hf' : Fits s' bs' u' a' w') (hs : Step u bs w u' bs' w')
    (hk : Kept (narrow wrt s.loc.length an.boxes) s s') (ha : ∀ d, memB ds d = false → a'.tmps[d]? = a.tmps[d]?) (hv : valsAt s' an = some vs) :
    Fits (anew s ds an vs) bs u' a' w' := by
  unfold valsAt at hv
  split at hv
  rotate_left
  · cases hv
  rename_i hdn
  split at hv
  · rename_i va vb hva hvb
    cases hv
    have hla := slotVals_len hva
    obtain ⟨ext, hext, _⟩ := hs.more
    have hz : zipSlots an.slots (va ++ vb) = zipSlots an.slots va := zipSlots_app hla
    have hd : (va ++ vb).drop an.slots.length = vb := by rw [← hla, List.drop_left]
    refine ⟨⟨by rw [hf'.defers, hdn]; rfl, by rw [hf'.n, hk.n]; rfl, ?_⟩, ?_, ?_, hf.nodup, ?_, hf'.sub⟩
    · intro p hp
      simp only [Go.Proofs.YtbohcdjoglidhaaGreatDoor.anew, hz] at hp
      rcases List.mem_append.1 hp with hp | hp
      · exact zipSlots_env hf'.toFitsE hva p hp
      · obtain ⟨h1, h2⟩ := keepEnv_mem hp
        obtain ⟨v, h3, h4⟩ := hf.env p h1
        exact ⟨v, h3, (ha p.1 h2).trans h4⟩
    · simp only [Go.Proofs.YtbohcdjoglidhaaGreatDoor.anew, setBoxes_len]; exact hf.len
    · intro i cs e
      simp only [Go.Proofs.YtbohcdjoglidhaaGreatDoor.anew, hd] at e
      have hlt : i < s.loc.length := by
        rcases Nat.lt_or_ge i s.loc.length with k | k
        · exact k
        · rw [List.getElem?_eq_none (by rw [setBoxes_len]; exact k)] at e; cases e
      have h1 := setBoxes_spec hk.len an.boxes s.loc vb hvb rfl (fun j cs2 e2 hm => by
        refine hk.same j cs2 e2 ?_
        have hjlt : j < s.loc.length := by
          rcases Nat.lt_or_ge j s.loc.length with k | k
          · exact k
          · rw [List.getElem?_eq_none k] at e2; cases e2
        unfold narrow
        have : Nat.blt j s.loc.length = true := by simpa using hjlt
        rw [this]
        simp [hm]) i cs e
      obtain ⟨b, T, h2, h3⟩ := hf'.loc i cs h1
      refine ⟨b, T, ?_, h3⟩
      rw [hext, List.getElem?_append_left (by rw [hf.len]; exact hlt)] at h2
      exact h2
    · intro b hb
      exact hf'.hid b (by rw [hext]; exact List.mem_append_left _ hb)
  · cases hv

theorem anew_kept {ds : List Nat} {an : Ann} {vs : List Value} {s' : St} (hk : Kept (narrow wrt s.loc.length an.boxes) s s') (hv : valsAt s' an = some vs) :
    Kept (narrow wrt s.loc.length an.boxes) s (anew s ds an vs) := by
  unfold valsAt at hv
  split at hv
  rotate_left
  · cases hv
  rename_i hdn
  split at hv
  · rename_i va vb hva hvb
    cases hv
    have hla := slotVals_len hva
    have hd : (va ++ vb).drop an.slots.length = vb := by rw [← hla, List.drop_left]
    refine ⟨rfl, by simp only [anew, setBoxes_len]; exact Nat.le_refl _, fun i cs e hw => ?_⟩
    simp only [anew, hd]
    have hlt : i < s.loc.length := by
      rcases Nat.lt_or_ge i s.loc.length with k | k
      · exact k
      · rw [List.getElem?_eq_none k] at e; cases e
    have h1 := setBoxes_spec hk.len an.boxes s.loc vb hvb rfl (fun j cs2 e2 hm => by
        refine hk.same j cs2 e2 ?_
        have hjlt : j < s.loc.length := by
          rcases Nat.lt_or_ge j s.loc.length with k | k
          · exact k
          · rw [List.getElem?_eq_none k] at e2; cases e2
        unfold narrow
        have : Nat.blt j s.loc.length = true := by simpa using hjlt
        rw [this]
        simp [hm]) i
    have h2 := hk.same i cs e hw
    cases h3 : (setBoxes s.loc an.boxes vb)[i]? with
    | none =>
      have : i < (setBoxes s.loc an.boxes vb).length := by rw [setBoxes_len]; exact hlt
      rw [List.getElem?_eq_getElem this] at h3; cases h3
    | some x =>
      have h4 := h1 _ h3
      rw [h2] at h4
      exact h4.symm
  · cases hv

theorem narrow_kept {cnt : Nat} {bx : List (Nat × List CT)} {s1 s2 : St} (hc : s1.loc.length = cnt) (k : Kept (narrow wrt cnt bx) s1 s2) : Kept wrt s1 s2 := by
  refine ⟨k.n, k.len, fun i cs e hw => k.same i cs e ?_⟩
  have hlt : i < cnt := by
    rw [← hc]
    rcases Nat.lt_or_ge i s1.loc.length with h | h
    · exact h
    · rw [List.getElem?_eq_none h] at e; cases e
  unfold narrow
  have : Nat.blt i cnt = true := by simpa using hlt
  rw [this]
  simp [hw]

/-- A loop whose invariant bears a ghost. -/
theorem wp_loop_g {P : Program} {c : Code} {Q : Exit → Act → World → Prop} {G : Type} (I : G → Act → World → Prop) (μ : G → Nat)
    (round : ∀ g a w, I g a w → c.wp P (Exit.then (fun a' w' => ∃ g', I g' a' w' ∧ μ g' < μ g) Q) a w) {a : Act} {w : World} (g : G) (h : I g a w) : (Code.loop c).wp P Q a w := by
  intro b k cs
  have key : ∀ n g a w, μ g = n → I g a w →
      ∃ e a' w', Q e a' w' ∧ Arrives P (lone (b.at a (.code c :: .inLoop c :: k)) cs w) b k cs e a' w' := by
    intro n
    induction n using Nat.strongRecOn with
    | _ n ih =>
      intro g a w hn hI
      obtain ⟨e, a₁, w₁, hq, harr⟩ := round g a w hI b (.inLoop c :: k) cs
      cases e with
      | normal =>
        obtain ⟨g₁, hI₁, hlt⟩ := hq
        obtain ⟨e₂, a₂, w₂, hq₂, harr₂⟩ := ih (μ g₁) (hn ▸ hlt) g₁ a₁ w₁ rfl hI₁
        exact ⟨e₂, a₂, w₂, hq₂, .of_steps (Steps.trans harr (.one step_inLoop)) harr₂⟩
      | exit id => exact ⟨_, a₁, w₁, hq, .pass (x := .inLoop c) rfl (fun _ _ => .inl (by simp)) harr⟩
      | goto l => exact ⟨_, a₁, w₁, hq, .pass (x := .inLoop c) rfl (fun _ _ => .inl (by simp)) harr⟩
      | ret => exact ⟨_, a₁, w₁, hq, .pass (x := .inLoop c) rfl (fun _ _ => .inl (by simp)) harr⟩
      | panic ch => exact ⟨_, a₁, w₁, hq, .pass (x := .inLoop c) rfl (fun _ _ => .inl (by simp)) harr⟩
      | outgrown => exact ⟨_, a₁, w₁, hq, .pass (x := .inLoop c) rfl (fun _ _ => .inl (by simp)) harr⟩
  obtain ⟨e, a', w', hq, harr⟩ := key _ g a w rfl h
  exact ⟨e, a', w', hq, .of_steps (.one step_loop) harr⟩

theorem unC_mono {R : Type} {ts : List CT} {I : Cur ts R} {vs : List Value} {f g : R → Prop} (h : unC ts I vs f) (hfg : ∀ r, f r → g r) : unC ts I vs g := by
  obtain ⟨r, hr⟩ := unC_val I (unC_kinds h)
  exact (hr _).2 (hfg _ ((hr _).1 h))

theorem dst_mem {id : Nat} {ops : Array Oper} {dr : Bool} {o : Oper} (ho : o ∈ ops.toList) {d : Nat} (hd : o.dst = some d) : memB (codeDsts (.region id ops dr)) d = true := by
  simp only [codeDsts, memB, List.any_eq_true]
  exact ⟨d, List.mem_filterMap.2 ⟨o, ho, hd⟩, Nat.beq_refl d⟩

theorem tell_fits {c : Operand} {x : SV} (hf : Fits s bs u a w) (hx : conc bs x = some (a.eval c)) (hn : ∀ t, c = .tmp t → (look s.env t).isSome = true) : Fits (tellC s c x) bs u a w ∧ (tellC s c x).loc = s.loc ∧ (tellC s c x).n = s.n := by
  cases c with
  | tmp t =>
    obtain ⟨y, hy⟩ := Option.isSome_iff_exists.1 (hn t rfl)
    obtain ⟨v, h1, h2⟩ := hf.env _ (look_mem hy)
    simp only at h1 h2
    have hev : a.eval (.tmp t) = v := by simp only [Act.eval]; rw [Array.getD_eq_getD_getElem?, h2]; rfl
    rw [hev] at hx
    have he := hf.toFitsE.tell (d := t) hx h2
    exact ⟨hf.told ⟨he, (put_loc _ _ _).1, (put_loc _ _ _).2⟩, (put_loc _ _ _).1, (put_loc _ _ _).2⟩
  | const v => exact ⟨hf, rfl, rfl⟩
  | global g => exact ⟨hf, rfl, rfl⟩
  | func f => exact ⟨hf, rfl, rfl⟩

theorem envVals_spec {s : St} {bs : List Nat} {a : Act} (hf : FitsE s bs a) : ∀ p ∈ envVals s.env, a.tmps[p.1]? = some p.2 := by
  have key : ∀ l : List (Nat × SV), (∀ p ∈ l, p ∈ s.env) → ∀ p ∈ envVals l, a.tmps[p.1]? = some p.2 := by
    intro l
    induction l with
    | nil => intro _ p hp; cases hp
    | cons q r ih =>
      obtain ⟨d, x⟩ := q
      intro hl p hp
      simp only [envVals] at hp
      split at hp
      · rename_i v hv
        cases hp with
        | head =>
          obtain ⟨v', h1, h2⟩ := hf.env _ (hl _ (.head _))
          simp only at h1 h2
          rw [SV.val_conc hv bs] at h1
          cases h1; exact h2
        | tail _ hp => exact ih (fun p hp => hl p (.tail _ hp)) p hp
      · exact ih (fun p hp => hl p (.tail _ hp)) p hp
  exact key s.env fun _ h => h

set_option maxHeartbeats 1000000 in
theorem code_sound (hG : Good C) (ann : List (Nat × Ann)) : ∀ (c : Code) (p : Nat) (wrt : Nat → Bool) (Q : Exit → St → H → Prop) (s : St) (u : H), WPc C ann c p wrt Q s u →
    ∀ (bs : List Nat) (a : Act) (w : World), Fits s bs u a w → c.wp C.P (Post wrt s bs u a w (codeDsts c) Q) a w := by
  intro c
  have base : ∀ (e : Exit), (∀ c, e ≠ .panic c) → ∀ (ds : List Nat) (wrt : Nat → Bool) (Q : Exit → St → H → Prop) (s : St) (u : H) (bs : List Nat) (a : Act) (w : World), Q e s u → Fits s bs u a w →
      Post wrt s bs u a w ds Q e a w := fun e he ds wrt Q s u bs a w h hf => ⟨he, s, u, bs, h, hf, Step.refl hf.sub, Kept.refl _ _, fun _ _ => rfl⟩
  induction c with
  | skip => intro p wrt Q s u h bs a w hf; exact wp_skip (base _ (fun _ => Exit.noConfusion) _ _ _ _ _ _ _ _ h hf)
  | label l => intro p wrt Q s u h bs a w hf; exact wp_label (base _ (fun _ => Exit.noConfusion) _ _ _ _ _ _ _ _ h hf)
  | ret => intro p wrt Q s u h bs a w hf; exact wp_ret (base _ (fun _ => Exit.noConfusion) _ _ _ _ _ _ _ _ h hf)
  | exit id => intro p wrt Q s u h bs a w hf; exact wp_exit (base _ (fun _ => Exit.noConfusion) _ _ _ _ _ _ _ _ h hf)
  | goto l => intro p wrt Q s u h; exact h.elim
  | refuse r => intro p wrt Q s u h; exact h.elim
  | rangeFunc f ps x y =>
    intro p wrt Q s u h bs a w hf
    simp only [WPc] at h
    split at h
    · rename_i hd
      have hda : a.defers = [] := by rw [hf.defers, hd]; rfl
      refine Code.wp_mono ?_ (h a w hf.n (envVals_spec hf.toFitsE) hda hf.sub)
      rintro e a' w' ⟨rfl, ht, D, u', hd', hK, hs⟩
      refine ⟨fun _ => Exit.noConfusion, _, u', bs, hK, ?_, hs.hide bs, ⟨rfl, Nat.le_refl _, fun _ _ h _ => h⟩, fun _ _ => by rw [ht]⟩
      have hf2 := hf.step hs
      exact ⟨⟨hd', by rw [ht]; exact hf2.n, fun q hq => by rw [ht]; exact hf2.env q hq⟩, hf2.len, hf2.loc, hf2.nodup, hf2.hid, hf2.sub⟩
    · exact h.elim
  | region id ops dr =>
    intro p wrt Q s u h bs a w hf
    cases dr with
    | false =>
      simp only [WPc] at h
      refine wpIn_wide.1 (wpIn_region_list (seq_soundIn hG none (ds := memB (codeDsts (.region id ops false))) ops.toList s u bs a w h hf (.inl rfl) (fun o ho d hd => dst_mem ho hd) ?_))
      intro s' u' bs' a' w' hk hf' hs hkp ha
      exact ⟨fun _ => Exit.noConfusion, s', u', bs', hk, hf', hs, hkp, ha⟩
    | true =>
      simp only [WPc] at h
      split at h
      · rename_i hsel
        have hfd : Fits s bs u a { w with drawn := w.drawn + 1 } := ⟨hf.toFitsE, hf.len, hf.loc, hf.nodup, hf.hid, hf.sub⟩
        have hcl : Closed ops (Array.replicate ops.size false) := by
          intro j o _ hj
          have : (Array.replicate ops.size false).getD j false = false := by
            rw [Array.getD_eq_getD_getElem?, Array.getElem?_replicate]; split <;> rfl
          rw [this] at hj; cases hj
        have hco : Cont wrt s bs u a { w with drawn := w.drawn + 1 } (memB (codeDsts (.region id ops true))) (Q .normal) (Post wrt s bs u a w (codeDsts (.region id ops true)) Q .normal) := by
          intro s' u' bs' a' w' hk hf' hs hkp ha
          exact ⟨fun _ => Exit.noConfusion, s', u', bs', hk, hf', (Step.draws hf.sub (Nat.le_succ _)).trans hs, hkp, ha⟩
        split at h
        · refine wp_region_any hG.mixed (wpAny_of_G (nd := ndOf ops) (S := FitsW s.loc bs u) _ _ _ _ ?_)
          exact draw_sound hG (ds := memB (codeDsts (.region id ops true))) (loc0 := s.loc) (bs0 := bs) hsel (fun c a w hp => hp.1 c rfl) (fun o ho d hd => dst_mem ho hd) _ _ _ s u h bs a _ _ hfd hcl (by unfold left; simp) (fun _ => ⟨H.le.refl u, rfl, rfl⟩) ⟨[], by simp⟩ hco
        · obtain ⟨v0, hle0, h⟩ := h
          refine wp_region_any hG.mixed (wpAny_of_R (R := RelP ops s.loc bs v0 u) _ _ _ _ ?_)
          exact drawP_sound hG (ds := memB (codeDsts (.region id ops true))) (loc0 := s.loc) (bs0 := bs) hle0 hsel (fun c a w hp => hp.1 c rfl) (fun o ho d hd => dst_mem ho hd) _ _ _ s u h bs a _ _ hfd hcl (by unfold left; simp) (fun _ => ⟨H.le.refl u, rfl, rfl⟩) ⟨[], by simp⟩ hco
      · exact h.elim
  | seq x y ihx ihy =>
    intro p wrt Q s u h bs a w hf
    have hdx : ∀ d, memB (codeDsts (.seq x y)) d = false → memB (codeDsts x) d = false := fun d h => by simp only [codeDsts, memB_append, Bool.or_eq_false_iff] at h; exact h.1
    have hdy : ∀ d, memB (codeDsts (.seq x y)) d = false → memB (codeDsts y) d = false := fun d h => by simp only [codeDsts, memB_append, Bool.or_eq_false_iff] at h; exact h.2
    simp only [WPc] at h
    split at h
    · refine wp_seq (Code.wp_mono ?_ (ihx _ _ _ s u h bs a w hf))
      intro e a' w' hp
      obtain ⟨hne, s', u', bs', hq, hf', hs, hk, ha⟩ := hp
      cases e with
      | normal =>
        refine Code.wp_mono ?_ (ihy _ _ _ s' u' hq bs' a' w' hf')
        intro e2 a2 w2 hp2
        exact Post.next hs hk (fun d hd => ha d (hdx d hd)) (hp2.mono hdy)
      | exit id => exact ⟨hne, s', u', bs', hq, hf', hs, hk, fun d hd => ha d (hdx d hd)⟩
      | goto l => exact ⟨hne, s', u', bs', hq, hf', hs, hk, fun d hd => ha d (hdx d hd)⟩
      | ret => exact ⟨hne, s', u', bs', hq, hf', hs, hk, fun d hd => ha d (hdx d hd)⟩
      | panic c => exact absurd rfl (hne c)
      | outgrown => exact ⟨hne, s', u', bs', hq, hf', hs, hk, fun d hd => ha d (hdx d hd)⟩
    · rename_i an _
      have h' := h (lamC an.tys fun vs u1 => WPc C ann y (2 * p + 1) wrt Q (anew s (codeDsts x) an vs) u1) (by
        have all : ∀ (ts : List CT) (f : List Value → Prop), (∀ vs, Kinds ts vs → f vs) → allC ts f := by
          intro ts
          induction ts with
          | nil => intro f hf; exact hf [] .nil
          | cons t ts ih => intro f hf x; exact ih _ fun vs hvs => hf _ (.cons x hvs)
        refine all _ _ fun vs hvs u1 h1 => ?_
        exact (unC_lamC hvs _).2 h1)
      refine wp_seq (Code.wp_mono ?_ (ihx _ _ _ s u h' bs a w hf))
      intro e a' w' hp
      obtain ⟨hne, s', u', bs', hq, hf', hs, hk, ha⟩ := hp
      have hkw : Kept wrt s s' := narrow_kept rfl hk
      cases e with
      | normal =>
        simp only at hq
        split at hq
        · rename_i vs hvs
          have hkinds := unC_kinds hq
          have hy := (unC_lamC hkinds _).1 hq
          have hfa := hf.anew hf' hs hk ha hvs
          refine Code.wp_mono ?_ (ihy _ _ _ _ u' hy bs a' w' hfa)
          intro e2 a2 w2 hp2
          exact Post.next hs.forget (narrow_kept rfl (anew_kept hk hvs)) (fun d hd => ha d (hdx d hd)) (hp2.mono hdy)
        · exact hq.elim
      | exit id => exact ⟨hne, s', u', bs', hq, hf', hs, hkw, fun d hd => ha d (hdx d hd)⟩
      | goto l => exact ⟨hne, s', u', bs', hq, hf', hs, hkw, fun d hd => ha d (hdx d hd)⟩
      | ret => exact ⟨hne, s', u', bs', hq, hf', hs, hkw, fun d hd => ha d (hdx d hd)⟩
      | panic c => exact absurd rfl (hne c)
      | outgrown => exact ⟨hne, s', u', bs', hq, hf', hs, hkw, fun d hd => ha d (hdx d hd)⟩
  | cond c x y ihx ihy =>
    intro p wrt Q s u h bs a w hf
    have hdx : ∀ d, memB (codeDsts (.cond c x y)) d = false → memB (codeDsts x) d = false := fun d h => by simp only [codeDsts, memB_append, Bool.or_eq_false_iff] at h; exact h.1
    have hdy : ∀ d, memB (codeDsts (.cond c x y)) d = false → memB (codeDsts y) d = false := fun d h => by simp only [codeDsts, memB_append, Bool.or_eq_false_iff] at h; exact h.2
    have hx : ∀ (st : St), a.eval c = .bool true → Fits st bs u a w → (st.loc = s.loc ∧ st.n = s.n) → WPc C ann x (2 * p) wrt Q st u → (Code.cond c x y).wp C.P (Post wrt s bs u a w (codeDsts (.cond c x y)) Q) a w := by
      intro st hc hfs hsn hw
      refine wp_cond_true hc (Code.wp_mono ?_ (ihx _ _ _ st u hw bs a w hfs))
      intro e a' w' hp
      exact Post.next (Step.refl hf.sub) ⟨hsn.2, by rw [hsn.1]; exact Nat.le_refl _, fun i cs e _ => by rw [hsn.1]; exact e⟩ (fun _ _ => rfl) (hp.mono hdx)
    have hy : ∀ (st : St), a.eval c = .bool false → Fits st bs u a w → (st.loc = s.loc ∧ st.n = s.n) → WPc C ann y (2 * p + 1) wrt Q st u → (Code.cond c x y).wp C.P (Post wrt s bs u a w (codeDsts (.cond c x y)) Q) a w := by
      intro st hc hfs hsn hw
      refine wp_cond_false hc (Code.wp_mono ?_ (ihy _ _ _ st u hw bs a w hfs))
      intro e a' w' hp
      exact Post.next (Step.refl hf.sub) ⟨hsn.2, by rw [hsn.1]; exact Nat.le_refl _, fun i cs e _ => by rw [hsn.1]; exact e⟩ (fun _ _ => rfl) (hp.mono hdy)
    have hsome : ∀ v, s.sv c = some v → ∀ t, c = .tmp t → (look s.env t).isSome = true := fun v hv t ht => by subst ht; simp only [St.sv] at hv; rw [hv]; rfl
    simp only [WPc] at h
    split at h
    · rename_i hc; exact hx s (Option.some.inj (hf.sv hc)).symm hf ⟨rfl, rfl⟩ h
    · rename_i hc; exact hy s (Option.some.inj (hf.sv hc)).symm hf ⟨rfl, rfl⟩ h
    · rename_i q d hc
      have hev := (Option.some.inj (hf.sv hc)).symm
      by_cases hq : q
      · have e1 : a.eval c = .bool true := by rw [hev]; simp [hq]
        obtain ⟨h1, h2⟩ := tell_fits (x := .tt) hf (by rw [e1]; rfl) (hsome _ hc)
        exact hx _ e1 h1 h2 (h.1 hq)
      · have e1 : a.eval c = .bool false := by rw [hev]; simp [hq]
        obtain ⟨h1, h2⟩ := tell_fits (x := .ff) hf (by rw [e1]; rfl) (hsome _ hc)
        exact hy _ e1 h1 h2 (h.2 hq)
    · rename_i q d hc
      have hev := (Option.some.inj (hf.sv hc)).symm
      by_cases hq : q
      · have e1 : a.eval c = .bool false := by rw [hev]; simp [hq]
        obtain ⟨h1, h2⟩ := tell_fits (x := .ff) hf (by rw [e1]; rfl) (hsome _ hc)
        exact hy _ e1 h1 h2 (h.2 hq)
      · have e1 : a.eval c = .bool true := by rw [hev]; simp [hq]
        obtain ⟨h1, h2⟩ := tell_fits (x := .tt) hf (by rw [e1]; rfl) (hsome _ hc)
        exact hx _ e1 h1 h2 (h.1 hq)
    · rename_i b hc
      have hev := (Option.some.inj (hf.sv hc)).symm
      cases b with
      | true =>
        obtain ⟨h1, h2⟩ := tell_fits (x := .tt) hf (by rw [hev]; rfl) (hsome _ hc)
        exact hx _ hev h1 h2 (h.1 rfl)
      | false =>
        obtain ⟨h1, h2⟩ := tell_fits (x := .ff) hf (by rw [hev]; rfl) (hsome _ hc)
        exact hy _ hev h1 h2 (h.2 rfl)
    · exact h.elim
  | block id b ih =>
    intro p wrt Q s u h bs a w hf
    simp only [WPc] at h
    refine wp_block (Code.wp_mono ?_ (ih _ _ _ s u h bs a w hf))
    intro e a' w' hp
    obtain ⟨hne, s', u', bs', hq, hf', hs, hk, ha⟩ := hp
    cases e with
    | exit j =>
      simp only at hq
      simp only [Exit.inBlock]
      split at hq
      · rename_i hj
        have := Nat.eq_of_beq_eq_true hj
        subst this
        rw [if_pos rfl]
        exact ⟨fun _ => Exit.noConfusion, s', u', bs', hq, hf', hs, hk, ha⟩
      · rename_i hj
        rw [if_neg (fun e => by subst e; rw [Nat.beq_refl] at hj; cases hj)]
        exact ⟨hne, s', u', bs', hq, hf', hs, hk, ha⟩
    | normal => exact ⟨hne, s', u', bs', hq, hf', hs, hk, ha⟩
    | goto l => exact ⟨hne, s', u', bs', hq, hf', hs, hk, ha⟩
    | ret => exact ⟨hne, s', u', bs', hq, hf', hs, hk, ha⟩
    | panic c => exact absurd rfl (hne c)
    | outgrown => exact ⟨hne, s', u', bs', hq, hf', hs, hk, ha⟩
  | scope b ih =>
    intro p wrt Q s u h bs a w hf
    simp only [WPc] at h
    refine wp_scope_straight (Code.wp_mono ?_ (ih _ _ _ s u h bs a w hf))
    intro e a' w' hp
    obtain ⟨hne, s', u', bs', hq, hf', hs, hk, ha⟩ := hp
    cases e with
    | goto l => exact hq.elim
    | exit j => exact ⟨hne, s', u', bs', hq, hf', hs, hk, ha⟩
    | normal => exact ⟨hne, s', u', bs', hq, hf', hs, hk, ha⟩
    | ret => exact ⟨hne, s', u', bs', hq, hf', hs, hk, ha⟩
    | panic c => exact absurd rfl (hne c)
    | outgrown => exact ⟨hne, s', u', bs', hq, hf', hs, hk, ha⟩
  | loop b ih =>
    intro p wrt Q s u h bs a w hf
    simp only [WPc] at h
    split at h
    · exact h.elim
    · rename_i an _
      split at h
      · exact h.elim
      · rename_i vs0 hvs0
        obtain ⟨I, μ, h0, hround⟩ := h
        let Inv : (List Value × H) → Act → World → Prop := fun g a' w' => Kinds an.tys g.1 ∧ (unC an.tys I g.1 fun r => r g.2) ∧ Fits (anew s (codeDsts b) an g.1) bs g.2 a' w' ∧ Step u bs w g.2 bs w' ∧
          (∀ d, memB (codeDsts b) d = false → a'.tmps[d]? = a.tmps[d]?) ∧ Kept (narrow wrt s.loc.length an.boxes) s (anew s (codeDsts b) an g.1)
        let m : (List Value × H) → Nat := fun g => (Classical.epsilon fun n => unC an.tys μ g.1 fun m => n = m g.2)
        have hm : ∀ g, Kinds an.tys g.1 → ∀ f : (H → Nat) → Prop, unC an.tys μ g.1 f → ∃ r, f r ∧ m g = r g.2 := by
          intro g hg f hfm
          obtain ⟨r, hr⟩ := unC_val μ hg
          refine ⟨r, (hr _).1 hfm, ?_⟩
          have := Classical.epsilon_spec (p := fun n => unC an.tys μ g.1 fun m => n = m g.2) ⟨r g.2, (hr _).2 rfl⟩
          exact (hr _).1 this
        have hk0 := unC_kinds h0
        have hkeep0 : Kept (narrow wrt s.loc.length an.boxes) s (anew s (codeDsts b) an vs0) := anew_kept (Kept.refl _ _) hvs0
        refine wp_loop_g Inv m ?_ (vs0, u) ⟨hk0, h0, hf.anew (wrt := wrt) hf (Step.refl hf.sub) (Kept.refl _ _) (fun _ _ => rfl) hvs0, Step.refl hf.sub, fun _ _ => rfl, hkeep0⟩
        rintro ⟨vs, u1⟩ a1 w1 ⟨hvk, hI, hf1, hs1, ha1, hkn⟩
        have hb := allC_of hround hvk u1 hI
        have hlen1 : (anew s (codeDsts b) an vs).loc.length = s.loc.length := by simp only [anew, setBoxes_len]
        refine Code.wp_mono ?_ (ih _ _ _ _ u1 hb bs a1 w1 hf1)
        intro e a' w' hp
        obtain ⟨hne, s', u', bs', hq, hf', hs', hk, ha⟩ := hp
        have hks : Kept (narrow wrt s.loc.length an.boxes) s s' := hkn.trans hk
        have hkw : Kept wrt s s' := narrow_kept rfl hks
        have hst := hs1.trans hs'
        have hfr : ∀ d, memB (codeDsts b) d = false → a'.tmps[d]? = a.tmps[d]? := fun d hd => (ha d hd).trans (ha1 d hd)
        cases e with
        | normal =>
          simp only at hq
          split at hq
          · rename_i vs' hvs'
            have hvk' := unC_kinds hq
            refine ⟨(vs', u'), ⟨hvk', unC_mono hq fun r hr => ?_, hf.anew hf' hst hks hfr hvs', hst.forget, hfr, anew_kept hks hvs'⟩, ?_⟩
            · obtain ⟨m1, h1, _⟩ := hm (vs', u') hvk' _ hr
              obtain ⟨m0, h2, _⟩ := hm (vs, u1) hvk _ h1
              exact h2.1
            · obtain ⟨r, hr⟩ := unC_val I hvk'
              obtain ⟨m1, h1, e1⟩ := hm (vs', u') hvk' _ ((hr _).1 hq)
              obtain ⟨m0, h2, e0⟩ := hm (vs, u1) hvk _ h1
              rw [e1, e0]; exact h2.2
          · exact hq.elim
        | exit id => exact ⟨hne, s', u', bs', hq, hf', hst, hkw, hfr⟩
        | goto l => exact ⟨hne, s', u', bs', hq, hf', hst, hkw, hfr⟩
        | ret => exact ⟨hne, s', u', bs', hq, hf', hst, hkw, hfr⟩
        | panic c => exact absurd rfl (hne c)
        | outgrown => exact ⟨hne, s', u', bs', hq, hf', hst, hkw, hfr⟩

/-! ### a function -/

/-- The results' cells, one behind the other. -/
def resVals (s : St) : List ResultVar → List Sh → Option (List Value)
  | [], [] => some []
  | .tmp d :: rs, .one _ :: ss => match (look s.env d).bind SV.val, resVals s rs ss with
    | some v, some vs => some (v :: vs)
    | _, _ => none
  | .cell d _ :: rs, sh :: ss => match look s.env d, resVals s rs ss with
    | some (.loc i off), some vs => match s.loc[i]? with
      | some cs => match Nat.ble (off + sh.cts.length) cs.length with
        | true => some ((cs.drop off).take sh.cts.length ++ vs)
        | false => none
      | none => none
    | _, _ => none
  | _, _ => none

/-- Do the results lie in slots and cells of these kinds? -/
def resOk (P : Program) : List ResultVar → List Sh → Bool
  | [], [] => true
  | .tmp _ :: rs, .one _ :: ss => resOk P rs ss
  | .cell _ t :: rs, sh :: ss => (match shOf P t, sh with
    | some (.one c), .one d => (match c, d with
      | .int k, .int k' => kEq k k'
      | .bool, .bool => true
      | .str, .str => true
      | .ptr, .ptr => true
      | .slice, .slice => true
      | .map, .map => true
      | .val, .val => true
      | _, _ => false)
    | some (.agg c), .agg d => Nat.beq c.length d.length
    | _, _ => false) && resOk P rs ss
  | _, _ => false

theorem encShs_one {t : CT} {ss : List Sh} {v : Value} {vs : List Value} : encShs (.one t :: ss) (v :: vs) = v :: encShs ss vs := rfl

theorem results_run {P : Program} {s : St} {bs : List Nat} {u : H} {a : Act} {w : World} (hf : Fits s bs u a w) : ∀ (rs : List ResultVar) (ss : List Sh) (vs : List Value), resVals s rs ss = some vs → resOk P rs ss = true →
    (rs.mapM (fun (r : ResultVar) => match r with
      | .tmp t => (pure (a.tmps.getD t undef) : Sem Value)
      | .cell x t => do loadVar t (← asAddr (a.tmps.getD x undef)))).run P w = Result.ok (encShs ss vs) w := by
  intro rs
  induction rs with
  | nil =>
    intro ss vs h ho
    cases ss with
    | nil => simp [resVals] at h; subst h; rfl
    | cons => simp [resVals] at h
  | cons r rs ih =>
    intro ss vs h ho
    cases r with
    | tmp d =>
      cases ss with
      | nil => simp [resVals] at h
      | cons sh ss =>
        cases sh with
        | agg => simp [resVals] at h
        | one t =>
          simp only [resVals] at h
          split at h
          · rename_i v vs' hv hvs
            cases h
            have ho' : resOk P rs ss = true := ho
            have h1 := ih ss vs' hvs ho'
            simp only [Option.bind_eq_some_iff] at hv
            obtain ⟨x, hx, hxv⟩ := hv
            obtain ⟨v', h2, h3⟩ := hf.env _ (look_mem hx)
            simp only at h2 h3
            rw [SV.val_conc hxv bs] at h2; cases h2
            have hg : a.tmps.getD d undef = v := by rw [Array.getD_eq_getD_getElem?, h3]; rfl
            simp only [List.mapM_cons, hg, pure_bind, Sem.run_bind, encShs_one]
            rw [h1]
            rfl
          · cases h
    | cell d t =>
      cases ss with
      | nil => simp [resVals] at h
      | cons sh ss =>
        have hr : resVals s (.cell d t :: rs) (sh :: ss) = some vs := h
        simp only [resVals] at hr
        split at hr
        · rename_i i off vs' hd hvs
          split at hr
          · rename_i cs hl
            split at hr
            · rename_i hb
              cases hr
              have hb := Nat.le_of_ble_eq_true hb
              have ho1 : resOk P (.cell d t :: rs) (sh :: ss) = true := ho
              simp only [resOk, Bool.and_eq_true] at ho1
              have h1 := ih ss vs' hvs ho1.2
              obtain ⟨v', h2, h3⟩ := hf.env _ (look_mem hd)
              simp only at h2 h3
              obtain ⟨b, T, hb1, hb2⟩ := hf.loc i cs hl
              simp only [conc, hb1, Option.some.injEq] at h2
              subst h2
              have hg : a.tmps.getD d undef = .pointer (some ⟨b, off, none⟩) := by rw [Array.getD_eq_getD_getElem?, h3]; rfl
              have hval : (loadVar t ⟨b, off, none⟩).run P w = .ok (sh.take ((cs.drop off).take sh.cts.length ++ vs')).1 w ∧ (sh.take ((cs.drop off).take sh.cts.length ++ vs')).2 = vs' := by
                have h4 := ho1.1
                cases hsh : shOf P t with
                | none => rw [hsh] at h4; simp at h4
                | some sh' =>
                  rw [hsh] at h4
                  have hlen : sh'.cts.length = sh.cts.length := by
                    cases sh' <;> cases sh <;> simp only [Sh.cts] at h4 ⊢ <;> first | rfl | (exact Nat.eq_of_beq_eq_true h4) | cases h4
                  have hload := loadBox_run (P := P) (off := off) hb2 sh'.cts.length 0 #[] (by rw [hlen]; simpa using hb)
                  have hlv := loadVar_run hsh ⟨b, off, none⟩ (vs := (cs.drop off).take sh'.cts.length) (by simp; rw [hlen]; omega) (by simpa using hload) (by
                    intro c hc
                    subst hc
                    have hl1 : sh.cts.length = 1 := by rw [← hlen]; rfl
                    have hlt : off < cs.length := by omega
                    simp only [Sh.cts, List.length_cons, List.length_nil] at hlen ⊢
                    refine ⟨cs[off], ?_, ?_⟩
                    · rw [List.drop_eq_getElem_cons hlt]; rfl
                    · simp only [World.cell?, hb2]; simp [hlt])
                  rw [hlen] at hlv
                  have hn : ((cs.drop off).take sh.cts.length).length = sh.cts.length := by simp; omega
                  rw [hlv]
                  cases sh' with
                  | one c' =>
                    cases sh with
                    | agg _ => simp at h4
                    | one c =>
                      simp only [Sh.cts, List.length_cons, List.length_nil] at hn ⊢
                      match hx : (cs.drop off).take 1, hn with
                      | [x], _ => exact ⟨rfl, rfl⟩
                  | agg c' =>
                    cases sh with
                    | one _ => simp at h4
                    | agg c =>
                      simp only [Sh.cts] at hn ⊢
                      refine ⟨?_, ?_⟩
                      · simp only [Sh.mk, Sh.take]
                        rw [List.take_append_of_le_length (by omega), List.take_of_length_le (l := List.take _ _) (by omega)]
                      · simp only [Sh.take]
                        rw [List.drop_append_of_le_length (by omega), List.drop_of_length_le (by omega)]
                        rfl
              have hz : asAddr (.pointer (some ⟨b, off, none⟩)) = pure ⟨b, off, none⟩ := rfl
              simp only [List.mapM_cons, hg, hz, pure_bind, Sem.run_bind, hval.1, Result.andThen_ok]
              rw [h1]
              simp only [encShs, hval.2]
              rfl
            · cases hr
          · cases hr
        · cases hr

/-- The block of deferred calls is shut at the end. -/
def endD (d : Option Nat) (u : H) (f : H → Prop) : Prop :=
  match d with
  | none => f u
  | some D => u D = some (.deferred (some [])) ∧ f (u.ins D (.deferred none))

/-- How a body must end. -/
def endW (rs : List ResultVar) (ss : List Sh) (K : Cur (ctsOf ss) (H → Prop)) : Exit → St → H → Prop
  | .normal, s, u => match resVals s rs ss with
    | some vs => endD s.dfs u fun u => unC (ctsOf ss) K vs fun r => r u
    | none => False
  | .ret, s, u => match resVals s rs ss with
    | some vs => endD s.dfs u fun u => unC (ctsOf ss) K vs fun r => r u
    | none => False
  | _, _, _ => False

def initEnv : Nat → List Value → List (Nat × SV)
  | _, [] => []
  | i, v :: vs => (i, .v v) :: initEnv (i + 1) vs

theorem initEnv_mem {vs : List Value} {i : Nat} {p : Nat × SV} (h : p ∈ initEnv i vs) : ∃ j v, vs[j]? = some v ∧ p = (i + j, .v v) := by
  induction vs generalizing i with
  | nil => cases h
  | cons v vs ih =>
    simp only [initEnv] at h
    cases h with
    | head => exact ⟨0, v, rfl, rfl⟩
    | tail _ h =>
      obtain ⟨j, v', h1, h2⟩ := ih h
      exact ⟨j + 1, v', h1, by rw [h2]; congr 1; omega⟩

/-- THE RULE: a function whose body's formula holds. -/
theorem fn_soundE {C : Cfg} (hG : Good C) {f : FuncId} {fn : Func} {c : Code} (hfn : C.P.funcs[f]? = some fn) (hb : fn.body = some c) (ann : List (Nat × Ann)) {args : List Value} {env : List (Nat × SV)}
    (henv : ∀ p ∈ env, ∃ v, args[p.1]? = some v ∧ conc [] p.2 = some v) {ss : List Sh} {u : H}
    {K : Cur (ctsOf ss) (H → Prop)} (hn : Nat.ble args.length fn.ntmps = true) (hr : resOk C.P fn.results.toList ss = true)
    (h : WPc C ann c 1 (fun _ => true) (endW fn.results.toList ss K) { n := fn.ntmps, env := env, loc := [] } u) : ClT C.P f args.toArray ss u K := by
  intro w hw
  refine callsIn_wide.1 (callsIn_of_wp_marks (F := Fence.wide) (n := 0) hfn hb trivial (wpIn_wide.2 ?_))
  have hle := Nat.le_of_ble_eq_true hn
  have hf : Fits { n := fn.ntmps, env := env, loc := [] } [] u { tmps := args.toArray ++ Array.replicate (fn.ntmps - args.toArray.size) undef, defers := [] } w := by
    refine ⟨⟨rfl, by simp; omega, ?_⟩, rfl, by simp, by simp, by simp, hw⟩
    intro p hp
    obtain ⟨v, h1, h2⟩ := henv p hp
    refine ⟨v, h2, ?_⟩
    have hlt : p.1 < args.length := by
      rcases Nat.lt_or_ge p.1 args.length with k | k
      · exact k
      · rw [List.getElem?_eq_none k] at h1; cases h1
    rw [Array.getElem?_append_left (by simpa using hlt)]
    simpa using h1
  have hs := code_sound hG ann c 1 _ _ _ u h [] _ w hf
  refine Code.wp_mono ?_ hs
  intro e a' w' hp
  obtain ⟨hne, s', u', bs', hq, hf', hst, _, _⟩ := hp
  have fin : ∀ vs, resVals s' fn.results.toList ss = some vs → (endD s'.dfs u' fun u' => unC (ctsOf ss) K vs fun r => r u') →
      LeavesInM Fence.wide 0 C.P fn a'.tmps (fun e w' => ∃ v1 u1, e = .returned v1 ∧ (∃ vs, Kinds (ctsOf ss) vs ∧ v1 = encRes ss vs ∧ unC (ctsOf ss) K vs fun r => r u1) ∧ Step u [] w u1 [] w') a'.defers .returning w' := by
    intro vs hv hK
    have hres : ∀ s2 u2 bs2 a2 w2, Fits s2 bs2 u2 a2 w2 → a2.tmps = a'.tmps → resVals s2 fn.results.toList ss = some vs → (results fn a'.tmps).run C.P w2 = .ok (encRes ss vs) w2 := by
      intro s2 u2 bs2 a2 w2 hf2 ht hv2
      have hrun := results_run (P := C.P) hf2 fn.results.toList ss vs hv2 hr
      rw [← ht]
      unfold results
      rw [Sem.run_bind]
      have e1 : (fn.results.mapM (fun (r : ResultVar) => match r with
          | .tmp t => (pure (a2.tmps.getD t undef) : Sem Value)
          | .cell x t => do loadVar t (← asAddr (a2.tmps.getD x undef)))).run C.P w2 = Result.ok (encShs ss vs).toArray w2 := by
        rw [Array.mapM_eq_mapM_toList, Sem.run_map, hrun]
        rfl
      refine (congrArg (fun r => Result.andThen r _) e1).trans ?_
      simp only [Result.andThen_ok]
      unfold encRes
      cases hx : encShs ss vs with
      | nil => rfl
      | cons v l =>
        cases l with
        | nil => rfl
        | cons v2 l => rfl
    rw [hf'.defers]
    unfold endD at hK
    split at hK
    · rename_i hd
      rw [hd]
      exact ⟨_, hres s' u' bs' a' w' hf' rfl hv, _, u', rfl, ⟨vs, unC_kinds hK, rfl, hK⟩, hst.forget⟩
    · rename_i D hd
      rw [hd]
      obtain ⟨hD, hK⟩ := hK
      have hDw := hf'.sub _ _ hD
      have htk := run_takeDeferred (P := C.P) hDw
      have hstep : Step u' bs' w' (u'.ins D (.deferred none)) bs' (w'.putObj D (.deferred none)) := by
        have hlt := hf'.sub.lt hD
        refine ⟨fun b x h => ?_, rfl, rfl, rfl, Nat.le_refl _, by simp, fun b _ hb _ => ?_, fun b _ hb => ?_, [], by simp, by simp⟩
        · unfold H.ins at h
          split at h
          · rename_i hbg; subst hbg; cases h; exact World.putObj_heap_same hlt
          · rename_i hbg; rw [World.putObj_heap_other hbg]; exact hf'.sub b x h
        · exact World.putObj_heap_other fun e => by rw [e, hD] at hb; cases hb
        · rw [H.ins_other _ _ fun e => by rw [e, hD] at hb; cases hb]; exact hb
      have hf2 : Fits s' bs' (u'.ins D (.deferred none)) a' (w'.putObj D (.deferred none)) := by
        refine ⟨hf'.toFitsE, hf'.len, fun i cs e => ?_, hf'.nodup, fun b hb => ?_, hstep.sub⟩
        · obtain ⟨b, T, h1, h2⟩ := hf'.loc i cs e
          exact ⟨b, T, h1, (World.putObj_heap_other fun e => by rw [e, hDw] at h2; cases h2).trans h2⟩
        · exact ⟨hstep.honest b (hf'.hid b hb).2 (hf'.hid b hb).1, by simpa using (hf'.hid b hb).2⟩
      refine ⟨by simp, .inl ⟨D, _, rfl, htk, ?_⟩⟩
      exact ⟨_, hres s' _ bs' a' _ hf2 rfl hv, _, _, rfl, ⟨vs, unC_kinds hK, rfl, hK⟩, (hst.trans hstep).forget⟩
  cases e with
  | normal =>
    simp only [endW] at hq
    split at hq
    · rename_i vs hv; exact fin vs hv hq
    · exact hq.elim
  | ret =>
    simp only [endW] at hq
    split at hq
    · rename_i vs hv; exact fin vs hv hq
    · exact hq.elim
  | exit id => exact hq.elim
  | goto l => exact hq.elim
  | panic c => exact absurd rfl (hne c)
  | outgrown => exact hq.elim

theorem fn_sound {C : Cfg} (hG : Good C) {f : FuncId} {fn : Func} {c : Code} (hfn : C.P.funcs[f]? = some fn) (hb : fn.body = some c) (ann : List (Nat × Ann)) {args : List Value} {ss : List Sh} {u : H}
    {K : Cur (ctsOf ss) (H → Prop)} (hn : Nat.ble args.length fn.ntmps = true) (hr : resOk C.P fn.results.toList ss = true)
    (h : WPc C ann c 1 (fun _ => true) (endW fn.results.toList ss K) { n := fn.ntmps, env := initEnv 0 args, loc := [] } u) : ClT C.P f args.toArray ss u K :=
  fn_soundE hG hfn hb ann (fun p hp => by
    obtain ⟨j, v, h1, rfl⟩ := initEnv_mem hp
    exact ⟨v, by simpa using h1, rfl⟩) hn hr h

/-- The slots at the start, behind np parameters what is captured: addresses. -/
def initEnvC (np : Nat) : Nat → List Value → List (Nat × SV)
  | _, [] => []
  | i, v :: vs => (i, match Nat.blt i np with
    | true => .v v
    | false => svOf .addr v) :: initEnvC np (i + 1) vs

theorem initEnvC_mem {np : Nat} {vs : List Value} {i : Nat} {p : Nat × SV} (h : p ∈ initEnvC np i vs) : ∃ j v, vs[j]? = some v ∧ p.1 = i + j ∧ conc [] p.2 = some v := by
  induction vs generalizing i with
  | nil => cases h
  | cons v vs ih =>
    simp only [initEnvC] at h
    cases h with
    | head =>
      refine ⟨0, v, rfl, rfl, ?_⟩
      cases Nat.blt i np with
      | true => rfl
      | false => exact svOf_conc _ _ _
    | tail _ h =>
      obtain ⟨j, v', h1, h2, h3⟩ := ih h
      exact ⟨j + 1, v', h1, by rw [h2]; omega, h3⟩

/-- A closure's: what it has captured lies behind its parameters. -/
theorem fn_soundC (np : Nat) {C : Cfg} {args : List Value} (hG : Good C) {f : FuncId} {fn : Func} (hfn : C.P.funcs[f]? = some fn) (hb : fn.body.isSome = true) (ann : List (Nat × Ann)) {ss : List Sh} {u : H}
    {K : Cur (ctsOf ss) (H → Prop)} (hn : Nat.ble args.length fn.ntmps = true) (hr : resOk C.P fn.results.toList ss = true)
    (h : WPc C ann (fn.body.getD .skip) 1 (fun _ => true) (endW fn.results.toList ss K) { n := fn.ntmps, env := initEnvC np 0 args, loc := [] } u) : ClT C.P f args.toArray ss u K := by
  cases hc : fn.body with
  | none => rw [hc] at hb; cases hb
  | some c =>
    rw [hc] at h
    exact fn_soundE hG hfn hc ann (fun p hp => by
      obtain ⟨j, v, h1, h2, h3⟩ := initEnvC_mem hp
      exact ⟨v, by rw [h2]; simpa using h1, h3⟩) hn hr h

/-- The same, the body named by its function. -/
theorem fn_sound' {C : Cfg} {args : List Value} (hG : Good C) {f : FuncId} {fn : Func} (hfn : C.P.funcs[f]? = some fn) (hb : fn.body.isSome = true) (ann : List (Nat × Ann)) {ss : List Sh} {u : H}
    {K : Cur (ctsOf ss) (H → Prop)} (hn : Nat.ble args.length fn.ntmps = true) (hr : resOk C.P fn.results.toList ss = true)
    (h : WPc C ann (fn.body.getD .skip) 1 (fun _ => true) (endW fn.results.toList ss K) { n := fn.ntmps, env := initEnv 0 args, loc := [] } u) : ClT C.P f args.toArray ss u K := by
  cases hc : fn.body with
  | none => rw [hc] at hb; cases hb
  | some c => rw [hc] at h; exact fn_sound hG hfn hc ann hn hr h

end
end Go.Proofs.YtbohcdjoglidhaaGreatDoor

/- VcGood -/
namespace Go.Proofs.YtbohcdjoglidhaaGreatDoor

/-- A value of a type out of its cells. -/
def mkV (P : Program) (t : TypeId) (l : List Value) : Value :=
  match aggOf P t with
  | true => .agg l.toArray
  | false => l.headD undef

def flatF (P : Program) (k : TypeId → Option Nat) : Nat → List Field → Option Nat
  | i, [] => some i
  | i, f :: r => match f.name != "_", Nat.beq f.offset i, k f.type, sizeOfT P f.type with
    | true, true, some w, some w' => match Nat.beq w w' with
      | true => flatF P k (i + w) r
      | false => none
    | _, _, _, _ => none

/-- Of how many whole numbers a type is made, if of nothing else. -/
def flatT (P : Program) : Nat → TypeId → Option Nat
  | 0, _ => none
  | d + 1, t => match P.underlying t with
    | some (.int _) => some 1
    | some (.struct fs) => match P.stoodInHeld t with
      | true => none
      | false => flatF P (flatT P d) 0 fs.toList
    | _ => none

def eqVB : Value → Value → Bool
  | .int _ a, .int _ b => decide (a = b)
  | _, _ => false

def eqB : List Value → List Value → Bool
  | [], [] => true
  | x :: xs, y :: ys => eqVB x y && eqB xs ys
  | _, _ => false

def pairs : List Value → List Value → Bool
  | [], [] => true
  | .int k _ :: xs, .int k' _ :: ys => kEq k k' && pairs xs ys
  | _, _ => false

theorem eqCells_B : ∀ (l m : List Value) (z : PD), eqCells l m = some z → pairs l m = true ∧ @decide z.p z.d = eqB l m := by
  have one : ∀ x y z, eqCell x y = some z → ∃ k a b, x = .int k a ∧ y = .int k b ∧ @decide z.p z.d = decide (a = b) := by
    intro x y z h
    unfold eqCell at h
    split at h
    · rename_i k a k' b
      split at h
      · rename_i hk
        have := kEq_eq hk
        subst this
        cases h
        exact ⟨_, _, _, rfl, rfl, rfl⟩
      · cases h
    · cases h
  intro l
  induction l with
  | nil =>
    intro m z h
    cases m with
    | nil => simp only [eqCells, Option.some.injEq] at h; subst h; exact ⟨rfl, rfl⟩
    | cons => simp [eqCells] at h
  | cons x l ih =>
    intro m z h
    cases m with
    | nil => cases l <;> simp [eqCells] at h
    | cons y m =>
      by_cases hlm : l = [] ∧ m = []
      · obtain ⟨rfl, rfl⟩ := hlm
        simp only [eqCells] at h
        obtain ⟨k, a, b, rfl, rfl, hd⟩ := one _ _ _ h
        refine ⟨by simp [pairs, kEq_self], ?_⟩
        rw [hd]; simp [eqB, eqVB]
      · have h' : (match eqCell x y, eqCells l m with
            | some a, some b => some ⟨a.p ∧ b.p, @instDecidableAnd a.p b.p a.d b.d⟩
            | _, _ => (none : Option PD)) = some z := by
          cases l with
          | nil => cases m with
            | nil => exact absurd ⟨rfl, rfl⟩ hlm
            | cons => exact h
          | cons => exact h
        split at h'
        · rename_i a b ha hb
          obtain ⟨k, a1, b1, rfl, rfl, hd⟩ := one _ _ _ ha
          obtain ⟨h1, h2⟩ := ih m b hb
          cases h'
          refine ⟨by simp [pairs, kEq_self, h1], ?_⟩
          simp only [eqB, eqVB, ← h2, ← hd]
          obtain ⟨ap, ad⟩ := a
          obtain ⟨bp, bd⟩ := b
          by_cases e1 : ap <;> by_cases e2 : bp <;> simp [e1, e2]
        · cases h'

theorem pairs_take : ∀ (n : Nat) (l m : List Value), pairs l m = true → pairs (l.take n) (m.take n) = true ∧ pairs (l.drop n) (m.drop n) = true ∧ eqB l m = (eqB (l.take n) (m.take n) && eqB (l.drop n) (m.drop n)) := by
  intro n
  induction n with
  | zero => intro l m h; exact ⟨rfl, h, by simp [eqB]⟩
  | succ n ih =>
    intro l m h
    cases l with
    | nil => cases m with
      | nil => exact ⟨rfl, rfl, rfl⟩
      | cons => simp [pairs] at h
    | cons x l => cases m with
      | nil => cases x <;> simp [pairs] at h
      | cons y m =>
        cases x <;> cases y <;> simp only [pairs, Bool.false_eq_true] at h
        rw [Bool.and_eq_true] at h
        obtain ⟨h1, h2, h3⟩ := ih l m h.2
        refine ⟨by simp [pairs, h.1, h1], h2, ?_⟩
        simp only [List.take_succ_cons, List.drop_succ_cons, eqB, h3, Bool.and_assoc]

theorem part_flat {P : Program} {t : TypeId} {w : Nat} {xs : Array Value} {off : Nat} (hs : sizeOfT P t = some w) (hu : (P.underlying t).isSome = true) (hl : aggOf P t = false → 1 = w) (hb : off + w ≤ xs.size) (W : World) :
    (part t xs off).run P W = .ok (mkV P t ((xs.toList.drop off).take w)) W := by
  obtain ⟨d, hd⟩ := Option.isSome_iff_exists.1 hu
  unfold sizeOfT at hs
  cases hi : P.info? t with
  | none => rw [hi] at hs; cases hs
  | some i =>
    rw [hi] at hs
    cases hs
    have hsz : (sizeOf t).run P W = .ok i.size W := by simp [sizeOf, run_typeInfo W hi]
    cases hg : aggOf P t with
    | true =>
      have : (isAgg t).run P W = .ok true W := by
        unfold aggOf at hg
        rw [hd] at hg
        cases d <;> simp only [Bool.false_eq_true] at hg <;> simp [isAgg, run_underlying hd]
      simp only [part, Sem.run_bind, this, Result.andThen_ok, if_true, hsz, mkV, hg]
      simp only [Sem.run_pure]
      congr 2
      apply Array.toList_inj.1
      simp [Array.toList_extract, List.extract_eq_take_drop]
    | false =>
      have h1 : 1 = i.size := hl hg
      have hlt : off < xs.size := by have : off + i.size ≤ xs.size := hb; omega
      have : (isAgg t).run P W = .ok false W := by
        unfold aggOf at hg
        rw [hd] at hg
        cases d <;> simp only [Bool.true_eq_false] at hg <;> simp [isAgg, run_underlying hd]
      simp only [part, Sem.run_bind, this, Result.andThen_ok, Bool.false_eq_true, if_false, mkV, hg]
      rw [Array.getElem?_eq_getElem hlt]
      simp only [Sem.run_pure]
      congr 1
      rw [← h1, List.drop_eq_getElem_cons (by simpa using hlt)]
      simp

theorem flatT_agg {P : Program} {d : Nat} {t : TypeId} {n : Nat} (h : flatT P d t = some n) : (P.underlying t).isSome = true ∧ (aggOf P t = false → 1 = n) := by
  cases d with
  | zero => simp [flatT] at h
  | succ d =>
    simp only [flatT] at h
    split at h
    · rename_i hu; cases h; exact ⟨by rw [hu]; rfl, fun _ => rfl⟩
    · rename_i hu; exact ⟨by rw [hu]; rfl, fun e => by simp [aggOf, hu] at e⟩
    · cases h

theorem equalIn_flat {P : Program} (W : World) : ∀ (d : Nat) (t : TypeId) (n e : Nat) (l m : List Value), flatT P d t = some n → l.length = n → m.length = n → pairs l m = true →
    (Op.equalIn (d + e) t (mkV P t l) (mkV P t m)).run P W = .ok (eqB l m) W := by
  intro d
  induction d with
  | zero => intro t n e l m h; simp [flatT] at h
  | succ d ih =>
    intro t n e l m h hl hm hp
    rw [show d + 1 + e = (d + e) + 1 by omega]
    simp only [flatT] at h
    split at h
    · rename_i k hu
      cases h
      have hg : aggOf P t = false := by simp [aggOf, hu]
      match l, m, hl, hm with
      | [x], [y], _, _ =>
        cases x <;> cases y <;> simp only [pairs, Bool.false_eq_true] at hp
        rw [Bool.and_eq_true] at hp
        have := kEq_eq hp.1
        subst this
        simp only [mkV, hg, List.headD_cons]
        rw [run_equalIn_int W (d + e) t _ k _ _ hu]
        simp [eqB, eqVB, BEq.beq]
    · rename_i fs hu
      split at h
      · cases h
      · rename_i hs
        have hg : aggOf P t = true := by simp [aggOf, hu]
        have hF : P.fieldsOf t = fs := by simp [Program.fieldsOf, hu]
        simp only [mkV, hg]
        rw [run_equalIn_struct W (d + e) t _ _ (by rw [hF]; exact hu) hs, hF]
        have key : ∀ (fl : List Field) (i : Nat), flatF P (flatT P d) i fl = some n → i ≤ n → pairs (l.drop i) (m.drop i) = true →
            (Op.eqFields (d + e) l.toArray m.toArray fl).run P W = .ok (eqB (l.drop i) (m.drop i)) W := by
          intro fl
          induction fl with
          | nil =>
            intro i hi hle hpi
            simp only [flatF, Option.some.injEq] at hi
            subst hi
            rw [List.drop_of_length_le (by omega), List.drop_of_length_le (by omega)]
            simp [Op.eqFields, eqB]
          | cons f fl ihf =>
            intro i hi hle hpi
            simp only [flatF] at hi
            split at hi
            · rename_i w w' hn ho hk hsz
              split at hi
              · rename_i hww
                have hww := Nat.eq_of_beq_eq_true hww
                subst hww
                have ho := Nat.eq_of_beq_eq_true ho
                have hne : f.name ≠ "_" := by simpa using hn
                have hmon : ∀ (fl : List Field) (j : Nat), flatF P (flatT P d) j fl = some n → j ≤ n := by
                  intro fl
                  induction fl with
                  | nil => intro j hj; simp only [flatF, Option.some.injEq] at hj; omega
                  | cons g fl ihg =>
                    intro j hj
                    simp only [flatF] at hj
                    split at hj
                    · split at hj
                      · have := ihg _ hj; omega
                      · cases hj
                    · cases hj
                have hle2 := hmon fl _ hi
                obtain ⟨hus, hag⟩ := flatT_agg hk
                have hp1 := part_flat (xs := l.toArray) (off := f.offset) hsz hus hag (by simp; omega) W
                have hp2 := part_flat (xs := m.toArray) (off := f.offset) hsz hus hag (by simp; omega) W
                obtain ⟨ht1, ht2, ht3⟩ := pairs_take w _ _ hpi
                have hq := ih f.type w e ((l.drop i).take w) ((m.drop i).take w) hk (by simp; omega) (by simp; omega) ht1
                rw [ho] at hp1 hp2
                simp only [Op.eqFields, if_pos hne, ho, Sem.run_bind, hp1, hp2, Result.andThen_ok, hq]
                rw [ht3]
                have hr := ihf (i + w) hi hle2 (by rw [← List.drop_drop, ← List.drop_drop]; exact ht2)
                rw [← List.drop_drop, ← List.drop_drop] at hr
                cases eqB ((l.drop i).take w) ((m.drop i).take w) with
                | true => simpa using hr
                | false => simp
              · cases hi
            · cases hi
        exact key fs.toList 0 h (Nat.zero_le _) hp
    · cases h

def flatB (P : Program) (t n : Nat) : Bool :=
  match flatT P 10 t with
  | some k => Nat.beq k n && !P.eqGuardType P.depth t && aggOf P t
  | none => false

theorem eq_flat {P : Program} {t n : Nat} (h : flatB P t n = true) (xs ys : Array Value) (z : PD) (h1 : xs.toList.length = n) (h2 : ys.toList.length = n) (he : eqCells xs.toList ys.toList = some z) (x y : Operand) (w : World) :
    (eqGuard .eql t x y (.agg xs) (.agg ys)).run P w = .ok () w ∧ (eqGuard .neq t x y (.agg xs) (.agg ys)).run P w = .ok () w ∧
    (Op.equal t (.agg xs) (.agg ys)).run P w = .ok (@decide z.p z.d) w := by
  unfold flatB at h
  split at h
  · rename_i k hk
    simp only [Bool.and_eq_true, Bool.not_eq_true'] at h
    obtain ⟨⟨hl, hg⟩, ha⟩ := h
    have hl := Nat.eq_of_beq_eq_true hl
    subst hl
    obtain ⟨hp, hd⟩ := eqCells_B _ _ _ he
    refine ⟨run_eqGuard_agg w .eql t x y xs ys hg, run_eqGuard_agg w .neq t x y xs ys hg, ?_⟩
    have := equalIn_flat w 10 t k 9990 _ _ hk h1 h2 hp
    simp only [mkV, ha] at this
    rw [hd]
    exact this
  · cases h

/-- No function of this name. -/
def noNamed (P : Program) : Bool := P.funcs.toList.all fun fn => (fn.name == "runtime.NumGoroutine") == false

theorem noNamed_spec {P : Program} (h : noNamed P = true) (f : FuncId) (fn : Func) (e : P.funcs[f]? = some fn) : (fn.name == "runtime.NumGoroutine") = false := by
  have := List.all_eq_true.1 h fn (Array.mem_toList_iff.2 (Array.mem_of_getElem? e))
  simpa using this

theorem eqN_mem {l : List (Nat × Nat)} {t n : Nat} (h : eqN l t = some n) : (t, n) ∈ l := by
  induction l with
  | nil => cases h
  | cons p r ih =>
    obtain ⟨a, b⟩ := p
    simp only [eqN] at h
    split at h
    · rename_i e; have := Nat.eq_of_beq_eq_true e; subst this; cases h; exact .head _
    · exact .tail _ (ih h)

theorem good_of {P : Program} {eqT : List (Nat × Nat)} (h1 : noNamed P = true) (h2 : P.follows .mixedOrders = true) (h3 : (eqT.all fun p => flatB P p.1 p.2) = true) (exp : List Nat) (wrap : Bool) {ent nxt : List Nat} {part : Bool} :
    Good { P := P, exp := exp, wrap := wrap, eqT := eqT, ent := ent, nxt := nxt, part := part } :=
  ⟨noNamed_spec h1, h2, fun _ _ h xs ys z l1 l2 he x y w => eq_flat (List.all_eq_true.1 h3 _ (eqN_mem h)) xs ys z l1 l2 he x y w⟩

end Go.Proofs.YtbohcdjoglidhaaGreatDoor

/- VcFns -/
set_option linter.all false
namespace Go.Proofs.YtbohcdjoglidhaaGreatDoor
def eqT : List (Nat × Nat) := [(61,2),(63,3),(47,4)]
theorem good (exp : List Nat) (wrap : Bool) {ent nxt : List Nat} {part : Bool} : Good { P := Tryz.prog, exp := exp, wrap := wrap, eqT := eqT, ent := ent, nxt := nxt, part := part } := good_of (by kernel_rfl) (by kernel_rfl) (by kernel_rfl) exp wrap
def C.theodolitelaw14_BackendNil (a0_0 : Int) (a0_1 : Int) (a0_2 : Int) (a0_3 : Int) (a0_4 : Int) (a0_5 : Sl) (a0_6 : Sl) (u : H) (K : Bool → H → Prop) : Prop := ClT Tryz.prog 3 #[(Value.agg #[(Value.int IntKind.i64 a0_0), (Value.int IntKind.i64 a0_1), (Value.int IntKind.i64 a0_2), (Value.int IntKind.i64 a0_3), (Value.int IntKind.i64 a0_4), (Value.slice a0_5.a a0_5.n a0_5.c), (Value.slice a0_6.a a0_6.n a0_6.c)])] [(Sh.one CT.bool)] u K
def C.theodolitelaw14_big (a0 : Sl) (a1 : Sl) (u : H) (K : Bool → H → Prop) : Prop := ClT Tryz.prog 4 #[(Value.slice a0.a a0.n a0.c), (Value.slice a1.a a1.n a1.c)] [(Sh.one CT.bool)] u K
def C.backend_Backend__Put (a0 : (Option Addr)) (a1_0 : Int) (a1_1 : Sl) (u : H) (K : Bool → Int → H → Prop) : Prop := ClT Tryz.prog 5 #[(Value.pointer a0), (Value.agg #[(Value.int IntKind.i64 a1_0), (Value.slice a1_1.a a1_1.n a1_1.c)])] [(Sh.one CT.bool), (Sh.one (CT.int IntKind.i64))] u K
def C.backend_Backend__Delete (a0 : (Option Addr)) (a1 : Int) (u : H) (K : Bool → Int → H → Prop) : Prop := ClT Tryz.prog 6 #[(Value.pointer a0), (Value.int IntKind.i64 a1)] [(Sh.one CT.bool), (Sh.one (CT.int IntKind.i64))] u K
def C.backend_Backend__Search (a0 : (Option Addr)) (a1 : Sl) (a2 : Int) (a3 : Int) (u : H) (K : Sl → Sl → Sl → Int → H → Prop) : Prop := ClT Tryz.prog 7 #[(Value.pointer a0), (Value.slice a1.a a1.n a1.c), (Value.int IntKind.i64 a2), (Value.int IntKind.i64 a3)] [(Sh.agg [CT.slice, CT.slice, CT.slice]), (Sh.one (CT.int IntKind.i64))] u K
def C.theodolitelaw14_awake (u : H) (K : Bool → H → Prop) : Prop := ClT Tryz.prog 8 #[] [(Sh.one CT.bool)] u K
def C.theodolitekeep_Answer (a0_0 : Sl) (a0_1 : Sl) (a0_2 : Sl) (a1_0 : Sl) (a1_1 : Sl) (a1_2 : Sl) (u : H) (K : Bool → H → Prop) : Prop := ClT Tryz.prog 9 #[(Value.agg #[(Value.slice a0_0.a a0_0.n a0_0.c), (Value.slice a0_1.a a0_1.n a0_1.c), (Value.slice a0_2.a a0_2.n a0_2.c)]), (Value.agg #[(Value.slice a1_0.a a1_0.n a1_0.c), (Value.slice a1_1.a a1_1.n a1_1.c), (Value.slice a1_2.a a1_2.n a1_2.c)])] [(Sh.one CT.bool)] u K
def C.backend_Backend__Len (a0 : (Option Addr)) (u : H) (K : Int → H → Prop) : Prop := ClT Tryz.prog 10 #[(Value.pointer a0)] [(Sh.one (CT.int IntKind.i64))] u K
def C.backend_Backend__Rows (a0 : (Option Addr)) (u : H) (K : Sl → H → Prop) : Prop := ClT Tryz.prog 11 #[(Value.pointer a0)] [(Sh.one CT.slice)] u K
def C.backend_Backend__Spec (a0 : (Option Addr)) (u : H) (K : Int → Int → Int → Int → H → Prop) : Prop := ClT Tryz.prog 12 #[(Value.pointer a0)] [(Sh.agg [(CT.int IntKind.i64), (CT.int IntKind.i64), (CT.int IntKind.i64), (CT.int IntKind.i64)])] u K
def C.theodolitekeep_Vectors (a0 : Sl) (a1 : Int) (u : H) (K : Int → H → Prop) : Prop := ClT Tryz.prog 13 #[(Value.slice a0.a a0.n a0.c), (Value.int IntKind.i64 a1)] [(Sh.one (CT.int IntKind.i64))] u K
def C.theodolitelaw14_build (a0 : Sl) (a1 : Int) (a2_0 : Int) (a2_1 : Int) (a2_2 : Int) (a2_3 : Int) (a2_4 : Int) (u : H) (K : (Option Addr) → Int → H → Prop) : Prop := ClT Tryz.prog 14 #[(Value.slice a0.a a0.n a0.c), (Value.int IntKind.i64 a1), (Value.agg #[(Value.int IntKind.i64 a2_0), (Value.int IntKind.i64 a2_1), (Value.int IntKind.i64 a2_2), (Value.int IntKind.i64 a2_3), (Value.int IntKind.u64 a2_4)])] [(Sh.one CT.ptr), (Sh.one (CT.int IntKind.i64))] u K
def C.theodolitelaw14_rows (u : H) (K : Sl → H → Prop) : Prop := ClT Tryz.prog 15 #[] [(Sh.one CT.slice)] u K
def C.theodolitekeep_Hits (a0 : Sl) (a1 : Sl) (u : H) (K : Bool → H → Prop) : Prop := ClT Tryz.prog 16 #[(Value.slice a0.a a0.n a0.c), (Value.slice a1.a a1.n a1.c)] [(Sh.one CT.bool)] u K
def C.theodolitekeep_Ints (a0 : Sl) (a1 : Sl) (u : H) (K : Bool → H → Prop) : Prop := ClT Tryz.prog 17 #[(Value.slice a0.a a0.n a0.c), (Value.slice a1.a a1.n a1.c)] [(Sh.one CT.bool)] u K
def C.theodolitekeep_Region (a0_0 : Int) (a0_1 : Sl) (a0_2 : Sl) (a0_3 : Int) (a0_4 : Int) (a0_5 : Sl) (a1_0 : Int) (a1_1 : Sl) (a1_2 : Sl) (a1_3 : Int) (a1_4 : Int) (a1_5 : Sl) (u : H) (K : Bool → H → Prop) : Prop := ClT Tryz.prog 18 #[(Value.agg #[(Value.int IntKind.i64 a0_0), (Value.slice a0_1.a a0_1.n a0_1.c), (Value.slice a0_2.a a0_2.n a0_2.c), (Value.int IntKind.u64 a0_3), (Value.int IntKind.u64 a0_4), (Value.slice a0_5.a a0_5.n a0_5.c)]), (Value.agg #[(Value.int IntKind.i64 a1_0), (Value.slice a1_1.a a1_1.n a1_1.c), (Value.slice a1_2.a a1_2.n a1_2.c), (Value.int IntKind.u64 a1_3), (Value.int IntKind.u64 a1_4), (Value.slice a1_5.a a1_5.n a1_5.c)])] [(Sh.one CT.bool)] u K
def C.backend_Build (a0_0 : Int) (a0_1 : Int) (a0_2 : Int) (a0_3 : Int) (a1 : Int) (a2 : Sl) (a3 : Int) (u : H) (K : (Option Addr) → Int → H → Prop) : Prop := ClT Tryz.prog 19 #[(Value.agg #[(Value.int IntKind.i64 a0_0), (Value.int IntKind.i64 a0_1), (Value.int IntKind.i64 a0_2), (Value.int IntKind.i64 a0_3)]), (Value.int IntKind.i64 a1), (Value.slice a2.a a2.n a2.c), (Value.int IntKind.u64 a3)] [(Sh.one CT.ptr), (Sh.one (CT.int IntKind.i64))] u K
def C.factory_Check (a0_0 : Int) (a0_1 : Int) (a0_2 : Int) (a0_3 : Int) (u : H) (K : Int → H → Prop) : Prop := ClT Tryz.prog 20 #[(Value.agg #[(Value.int IntKind.i64 a0_0), (Value.int IntKind.i64 a0_1), (Value.int IntKind.i64 a0_2), (Value.int IntKind.i64 a0_3)])] [(Sh.one (CT.int IntKind.i64))] u K
def C.flat_Check (a0 : Sl) (a1 : Int) (u : H) (K : Int → H → Prop) : Prop := ClT Tryz.prog 21 #[(Value.slice a0.a a0.n a0.c), (Value.int IntKind.i64 a1)] [(Sh.one (CT.int IntKind.i64))] u K
def C.kdtree_Build (a0 : Sl) (a1 : Int) (a2 : Int) (u : H) (K : (Option Addr) → Int → H → Prop) : Prop := ClT Tryz.prog 22 #[(Value.slice a0.a a0.n a0.c), (Value.int IntKind.i64 a1), (Value.int IntKind.i64 a2)] [(Sh.one CT.ptr), (Sh.one (CT.int IntKind.i64))] u K
def C.vptree_Build (a0 : Sl) (a1 : Int) (a2 : Int) (a3 : Int) (u : H) (K : (Option Addr) → Int → H → Prop) : Prop := ClT Tryz.prog 23 #[(Value.slice a0.a a0.n a0.c), (Value.int IntKind.i64 a1), (Value.int IntKind.i64 a2), (Value.int IntKind.u64 a3)] [(Sh.one CT.ptr), (Sh.one (CT.int IntKind.i64))] u K
def C.ivf_Build (a0 : Sl) (a1 : Int) (a2 : Int) (a3 : Int) (a4 : Int) (u : H) (K : (Option Addr) → Int → H → Prop) : Prop := ClT Tryz.prog 24 #[(Value.slice a0.a a0.n a0.c), (Value.int IntKind.i64 a1), (Value.int IntKind.i64 a2), (Value.int IntKind.i64 a3), (Value.int IntKind.u64 a4)] [(Sh.one CT.ptr), (Sh.one (CT.int IntKind.i64))] u K
def C.hnsw_Build (a0 : Sl) (a1 : Int) (a2 : Int) (a3 : Int) (u : H) (K : (Option Addr) → Int → H → Prop) : Prop := ClT Tryz.prog 25 #[(Value.slice a0.a a0.n a0.c), (Value.int IntKind.i64 a1), (Value.int IntKind.i64 a2), (Value.int IntKind.u64 a3)] [(Sh.one CT.ptr), (Sh.one (CT.int IntKind.i64))] u K
def C.flat_Own (a0 : Sl) (u : H) (K : Sl → H → Prop) : Prop := ClT Tryz.prog 26 #[(Value.slice a0.a a0.n a0.c)] [(Sh.one CT.slice)] u K
def C.pq_Train (a0 : Sl) (a1 : Int) (a2 : Int) (a3 : Int) (a4 : Int) (a5 : Int) (u : H) (K : (Option Addr) → Int → H → Prop) : Prop := ClT Tryz.prog 27 #[(Value.slice a0.a a0.n a0.c), (Value.int IntKind.i64 a1), (Value.int IntKind.i64 a2), (Value.int IntKind.i64 a3), (Value.int IntKind.i64 a4), (Value.int IntKind.u64 a5)] [(Sh.one CT.ptr), (Sh.one (CT.int IntKind.i64))] u K
def C.vec_Check (a0 : Sl) (a1 : Int) (u : H) (K : Int → H → Prop) : Prop := ClT Tryz.prog 28 #[(Value.slice a0.a a0.n a0.c), (Value.int IntKind.i64 a1)] [(Sh.one (CT.int IntKind.i64))] u K
def C.rand_New (a0 : Int) (u : H) (K : (Option Addr) → H → Prop) : Prop := ClT Tryz.prog 30 #[(Value.int IntKind.u64 a0)] [(Sh.one CT.ptr)] u K
def C.vptree_Tree__cut (a0 : (Option Addr)) (a1 : Sl) (u : H) (K : (Option Addr) → H → Prop) : Prop := ClT Tryz.prog 31 #[(Value.pointer a0), (Value.slice a1.a a1.n a1.c)] [(Sh.one CT.ptr)] u K
def C.slices_Clone___int_int_ (a0 : Sl) (u : H) (K : Sl → H → Prop) : Prop := ClT Tryz.prog 35 #[(Value.slice a0.a a0.n a0.c)] [(Sh.one CT.slice)] u K
def C.slices_SortFunc__api_Row_ (a0 : Sl) (a1 : Value) (u : H) (K : H → Prop) : Prop := ClT Tryz.prog 36 #[(Value.slice a0.a a0.n a0.c), a1] [] u K
def C.flat_Own_1 (a0_0 : Int) (a0_1 : Sl) (a1_0 : Int) (a1_1 : Sl) (u : H) (K : Int → H → Prop) : Prop := ClT Tryz.prog 37 #[(Value.agg #[(Value.int IntKind.i64 a0_0), (Value.slice a0_1.a a0_1.n a0_1.c)]), (Value.agg #[(Value.int IntKind.i64 a1_0), (Value.slice a1_1.a a1_1.n a1_1.c)])] [(Sh.one (CT.int IntKind.i64))] u K
def C.vec_dim (a0 : Int) (u : H) (K : Bool → H → Prop) : Prop := ClT Tryz.prog 40 #[(Value.int IntKind.i64 a0)] [(Sh.one CT.bool)] u K
def C.slices_SortStableFunc__api_Row_ (a0 : Sl) (a1 : Value) (u : H) (K : H → Prop) : Prop := ClT Tryz.prog 43 #[(Value.slice a0.a a0.n a0.c), a1] [] u K
def C.slices_Clone__api_Row_ (a0 : Sl) (u : H) (K : Sl → H → Prop) : Prop := ClT Tryz.prog 45 #[(Value.slice a0.a a0.n a0.c)] [(Sh.one CT.slice)] u K
def C.vptree_Tree__cut_1 (a0 : Sl) (a1 : Addr) (a2 : Addr) (u : H) (K : (Option Addr) → H → Prop) : Prop := ClT Tryz.prog 46 #[(Value.slice a0.a a0.n a0.c), (Value.pointer (some a1)), (Value.pointer (some a2))] [(Sh.one CT.ptr)] u K
def C.rand_Source__Below (a0 : (Option Addr)) (a1 : Int) (u : H) (K : Int → Int → H → Prop) : Prop := ClT Tryz.prog 47 #[(Value.pointer a0), (Value.int IntKind.i64 a1)] [(Sh.one (CT.int IntKind.i64)), (Sh.one (CT.int IntKind.i64))] u K
def C.vec_Ball (a0 : Sl) (a1 : Sl) (u : H) (K : Int → Sl → Sl → Int → Int → Sl → Int → H → Prop) : Prop := ClT Tryz.prog 48 #[(Value.slice a0.a a0.n a0.c), (Value.slice a1.a a1.n a1.c)] [(Sh.agg [(CT.int IntKind.i64), CT.slice, CT.slice, (CT.int IntKind.u64), (CT.int IntKind.u64), CT.slice]), (Sh.one (CT.int IntKind.i64))] u K
def C.vptree_Tree__cut_1_1 (a0_0 : Int) (a0_1 : Sl) (a1 : Addr) (u : H) (K : Int → Int → H → Prop) : Prop := ClT Tryz.prog 49 #[(Value.agg #[(Value.int IntKind.i64 a0_0), (Value.slice a0_1.a a0_1.n a0_1.c)]), (Value.pointer (some a1))] [(Sh.agg [(CT.int IntKind.u64), (CT.int IntKind.u64)])] u K
def C.vec_Dist (a0 : Sl) (a1 : Sl) (u : H) (K : Int → Int → Int → H → Prop) : Prop := ClT Tryz.prog 50 #[(Value.slice a0.a a0.n a0.c), (Value.slice a1.a a1.n a1.c)] [(Sh.agg [(CT.int IntKind.u64), (CT.int IntKind.u64)]), (Sh.one (CT.int IntKind.i64))] u K
def C.vptree_Tree__cut_1_2 (a0_0 : Int) (a0_1 : Sl) (a1_0 : Int) (a1_1 : Sl) (a2 : Addr) (u : H) (K : Int → H → Prop) : Prop := ClT Tryz.prog 51 #[(Value.agg #[(Value.int IntKind.i64 a0_0), (Value.slice a0_1.a a0_1.n a0_1.c)]), (Value.agg #[(Value.int IntKind.i64 a1_0), (Value.slice a1_1.a a1_1.n a1_1.c)]), (Value.pointer (some a2))] [(Sh.one (CT.int IntKind.i64))] u K
def C.wide_Cmp (a0_0 : Int) (a0_1 : Int) (a1_0 : Int) (a1_1 : Int) (u : H) (K : Int → H → Prop) : Prop := ClT Tryz.prog 52 #[(Value.agg #[(Value.int IntKind.u64 a0_0), (Value.int IntKind.u64 a0_1)]), (Value.agg #[(Value.int IntKind.u64 a1_0), (Value.int IntKind.u64 a1_1)])] [(Sh.one (CT.int IntKind.i64))] u K
def C.topk_New (a0 : Int) (u : H) (K : (Option Addr) → Int → H → Prop) : Prop := ClT Tryz.prog 60 #[(Value.int IntKind.i64 a0)] [(Sh.one CT.ptr), (Sh.one (CT.int IntKind.i64))] u K
def C.topk_Heap__Offer (a0 : (Option Addr)) (a1_0 : Int) (a1_1 : Int) (a1_2 : Int) (u : H) (K : Bool → H → Prop) : Prop := ClT Tryz.prog 64 #[(Value.pointer a0), (Value.agg #[(Value.int IntKind.i64 a1_0), (Value.int IntKind.u64 a1_1), (Value.int IntKind.u64 a1_2)])] [(Sh.one CT.bool)] u K
def C.topk_Heap__List (a0 : (Option Addr)) (u : H) (K : Sl → H → Prop) : Prop := ClT Tryz.prog 65 #[(Value.pointer a0)] [(Sh.one CT.slice)] u K
def C.vec_ids (a0 : Sl) (a1 : Int) (u : H) (K : Sl → Int → H → Prop) : Prop := ClT Tryz.prog 69 #[(Value.slice a0.a a0.n a0.c), (Value.int IntKind.i64 a1)] [(Sh.one CT.slice), (Sh.one (CT.int IntKind.i64))] u K
def C.slices_stableCmpFunc_api_Row_ (a0 : Sl) (a1 : Int) (a2 : Value) (u : H) (K : H → Prop) : Prop := ClT Tryz.prog 70 #[(Value.slice a0.a a0.n a0.c), (Value.int IntKind.i64 a1), a2] [] u K
def C.rand_Source__may (a0 : (Option Addr)) (a1 : Int) (a2 : Int) (a3 : Int) (u : H) (K : Int → H → Prop) : Prop := ClT Tryz.prog 71 #[(Value.pointer a0), (Value.int IntKind.i64 a1), (Value.int IntKind.i64 a2), (Value.int IntKind.i64 a3)] [(Sh.one (CT.int IntKind.i64))] u K
def C.rand_Source__Next (a0 : (Option Addr)) (u : H) (K : Int → H → Prop) : Prop := ClT Tryz.prog 72 #[(Value.pointer a0)] [(Sh.one (CT.int IntKind.u64))] u K
def C.vec_far (a0 : Sl) (a1 : Sl) (u : H) (K : Int → Int → H → Prop) : Prop := ClT Tryz.prog 73 #[(Value.slice a0.a a0.n a0.c), (Value.slice a1.a a1.n a1.c)] [(Sh.agg [(CT.int IntKind.u64), (CT.int IntKind.u64)])] u K
def C.heap_Pop (a0 : Value) (u : H) (K : Value → H → Prop) : Prop := ClT Tryz.prog 79 #[a0] [(Sh.one CT.val)] u K
def C.heap_Push (a0 : Value) (a1 : Value) (u : H) (K : H → Prop) : Prop := ClT Tryz.prog 80 #[a0, a1] [] u K
def C.topk_Less (a0_0 : Int) (a0_1 : Int) (a0_2 : Int) (a1_0 : Int) (a1_1 : Int) (a1_2 : Int) (u : H) (K : Bool → H → Prop) : Prop := ClT Tryz.prog 82 #[(Value.agg #[(Value.int IntKind.i64 a0_0), (Value.int IntKind.u64 a0_1), (Value.int IntKind.u64 a0_2)]), (Value.agg #[(Value.int IntKind.i64 a1_0), (Value.int IntKind.u64 a1_1), (Value.int IntKind.u64 a1_2)])] [(Sh.one CT.bool)] u K
def C.heap_Fix (a0 : Value) (a1 : Int) (u : H) (K : H → Prop) : Prop := ClT Tryz.prog 83 #[a0, (Value.int IntKind.i64 a1)] [] u K
def C.slices_Clone__api_Hit_ (a0 : Sl) (u : H) (K : Sl → H → Prop) : Prop := ClT Tryz.prog 84 #[(Value.slice a0.a a0.n a0.c)] [(Sh.one CT.slice)] u K
def C.slices_SortFunc__api_Hit_ (a0 : Sl) (a1 : Value) (u : H) (K : H → Prop) : Prop := ClT Tryz.prog 85 #[(Value.slice a0.a a0.n a0.c), a1] [] u K
def C.topk_compare (a0_0 : Int) (a0_1 : Int) (a0_2 : Int) (a1_0 : Int) (a1_1 : Int) (a1_2 : Int) (u : H) (K : Int → H → Prop) : Prop := ClT Tryz.prog 86 #[(Value.agg #[(Value.int IntKind.i64 a0_0), (Value.int IntKind.u64 a0_1), (Value.int IntKind.u64 a0_2)]), (Value.agg #[(Value.int IntKind.i64 a1_0), (Value.int IntKind.u64 a1_1), (Value.int IntKind.u64 a1_2)])] [(Sh.one (CT.int IntKind.i64))] u K
def C.slices_insertionSortCmpFunc_api_Row_ (a0 : Sl) (a1 : Int) (a2 : Int) (a3 : Value) (u : H) (K : H → Prop) : Prop := ClT Tryz.prog 90 #[(Value.slice a0.a a0.n a0.c), (Value.int IntKind.i64 a1), (Value.int IntKind.i64 a2), a3] [] u K
def C.slices_Sort___int_int_ (a0 : Sl) (u : H) (K : H → Prop) : Prop := ClT Tryz.prog 100 #[(Value.slice a0.a a0.n a0.c)] [] u K
def C.slices_symMergeCmpFunc_api_Row_ (a0 : Sl) (a1 : Int) (a2 : Int) (a3 : Int) (a4 : Value) (u : H) (K : H → Prop) : Prop := ClT Tryz.prog 101 #[(Value.slice a0.a a0.n a0.c), (Value.int IntKind.i64 a1), (Value.int IntKind.i64 a2), (Value.int IntKind.i64 a3), a4] [] u K
def C.vec_plus (a0_0 : Int) (a0_1 : Int) (a1 : Int) (a2 : Int) (u : H) (K : Int → Int → H → Prop) : Prop := ClT Tryz.prog 102 #[(Value.agg #[(Value.int IntKind.u64 a0_0), (Value.int IntKind.u64 a0_1)]), (Value.int IntKind.i64 a1), (Value.int IntKind.i64 a2)] [(Sh.agg [(CT.int IntKind.u64), (CT.int IntKind.u64)])] u K
def C.heap_down (a0 : Value) (a1 : Int) (a2 : Int) (u : H) (K : Bool → H → Prop) : Prop := ClT Tryz.prog 104 #[a0, (Value.int IntKind.i64 a1), (Value.int IntKind.i64 a2)] [(Sh.one CT.bool)] u K
def C.heap_up (a0 : Value) (a1 : Int) (u : H) (K : H → Prop) : Prop := ClT Tryz.prog 105 #[a0, (Value.int IntKind.i64 a1)] [] u K
def C.cmp_Or_int_ (a0 : Sl) (u : H) (K : Int → H → Prop) : Prop := ClT Tryz.prog 107 #[(Value.slice a0.a a0.n a0.c)] [(Sh.one (CT.int IntKind.i64))] u K
def C.cmp_Compare_int_ (a0 : Int) (a1 : Int) (u : H) (K : Int → H → Prop) : Prop := ClT Tryz.prog 108 #[(Value.int IntKind.i64 a0), (Value.int IntKind.i64 a1)] [(Sh.one (CT.int IntKind.i64))] u K
def C.slices_rotateCmpFunc_api_Row_ (a0 : Sl) (a1 : Int) (a2 : Int) (a3 : Int) (a4 : Value) (u : H) (K : H → Prop) : Prop := ClT Tryz.prog 116 #[(Value.slice a0.a a0.n a0.c), (Value.int IntKind.i64 a1), (Value.int IntKind.i64 a2), (Value.int IntKind.i64 a3), a4] [] u K
def C.wide_Add (a0_0 : Int) (a0_1 : Int) (a1_0 : Int) (a1_1 : Int) (u : H) (K : Int → Int → Int → H → Prop) : Prop := ClT Tryz.prog 117 #[(Value.agg #[(Value.int IntKind.u64 a0_0), (Value.int IntKind.u64 a0_1)]), (Value.agg #[(Value.int IntKind.u64 a1_0), (Value.int IntKind.u64 a1_1)])] [(Sh.agg [(CT.int IntKind.u64), (CT.int IntKind.u64)]), (Sh.one (CT.int IntKind.i64))] u K
def C.wide_Mul (a0 : Int) (a1 : Int) (u : H) (K : Int → Int → H → Prop) : Prop := ClT Tryz.prog 118 #[(Value.int IntKind.u64 a0), (Value.int IntKind.u64 a1)] [(Sh.agg [(CT.int IntKind.u64), (CT.int IntKind.u64)])] u K
def C.cmp_isNaN_int_ (a0 : Int) (u : H) (K : Bool → H → Prop) : Prop := ClT Tryz.prog 127 #[(Value.int IntKind.i64 a0)] [(Sh.one CT.bool)] u K
def C.slices_swapRangeCmpFunc_api_Row_ (a0 : Sl) (a1 : Int) (a2 : Int) (a3 : Int) (a4 : Value) (u : H) (K : H → Prop) : Prop := ClT Tryz.prog 146 #[(Value.slice a0.a a0.n a0.c), (Value.int IntKind.i64 a1), (Value.int IntKind.i64 a2), (Value.int IntKind.i64 a3), a4] [] u K
def C.bits_Mul64 (a0 : Int) (a1 : Int) (u : H) (K : Int → Int → H → Prop) : Prop := ClT Tryz.prog 148 #[(Value.int IntKind.u64 a0), (Value.int IntKind.u64 a1)] [(Sh.one (CT.int IntKind.u64)), (Sh.one (CT.int IntKind.u64))] u K
def C.slices_DeleteFunc__api_Row_ (a0 : Sl) (a1 : Value) (u : H) (K : Sl → H → Prop) : Prop := ClT Tryz.prog 184 #[(Value.slice a0.a a0.n a0.c), a1] [(Sh.one CT.slice)] u K
def C.flat_May (a0_0 : Int) (a0_1 : Sl) (a1 : Int) (a2 : Bool) (a3 : Int) (u : H) (K : Int → H → Prop) : Prop := ClT Tryz.prog 186 #[(Value.agg #[(Value.int IntKind.i64 a0_0), (Value.slice a0_1.a a0_1.n a0_1.c)]), (Value.int IntKind.i64 a1), (Value.bool a2), (Value.int IntKind.i64 a3)] [(Sh.one (CT.int IntKind.i64))] u K
def C.vec_Bound (a0_0 : Int) (a0_1 : Sl) (a0_2 : Sl) (a0_3 : Int) (a0_4 : Int) (a0_5 : Sl) (a1 : Sl) (u : H) (K : Int → Int → Int → H → Prop) : Prop := ClT Tryz.prog 187 #[(Value.agg #[(Value.int IntKind.i64 a0_0), (Value.slice a0_1.a a0_1.n a0_1.c), (Value.slice a0_2.a a0_2.n a0_2.c), (Value.int IntKind.u64 a0_3), (Value.int IntKind.u64 a0_4), (Value.slice a0_5.a a0_5.n a0_5.c)]), (Value.slice a1.a a1.n a1.c)] [(Sh.agg [(CT.int IntKind.u64), (CT.int IntKind.u64)]), (Sh.one (CT.int IntKind.i64))] u K
def C.flat_Asked (a0 : Sl) (a1 : Int) (a2 : Int) (a3 : Int) (u : H) (K : Int → H → Prop) : Prop := ClT Tryz.prog 188 #[(Value.slice a0.a a0.n a0.c), (Value.int IntKind.i64 a1), (Value.int IntKind.i64 a2), (Value.int IntKind.i64 a3)] [(Sh.one (CT.int IntKind.i64))] u K
def C.slices_IndexFunc__api_Row_ (a0 : Sl) (a1 : Value) (u : H) (K : Int → H → Prop) : Prop := ClT Tryz.prog 191 #[(Value.slice a0.a a0.n a0.c), a1] [(Sh.one (CT.int IntKind.i64))] u K
def C.vec_both (a0_0 : Int) (a0_1 : Sl) (a0_2 : Sl) (a0_3 : Int) (a0_4 : Int) (a0_5 : Sl) (a1 : Sl) (u : H) (K : Int → H → Prop) : Prop := ClT Tryz.prog 192 #[(Value.agg #[(Value.int IntKind.i64 a0_0), (Value.slice a0_1.a a0_1.n a0_1.c), (Value.slice a0_2.a a0_2.n a0_2.c), (Value.int IntKind.u64 a0_3), (Value.int IntKind.u64 a0_4), (Value.slice a0_5.a a0_5.n a0_5.c)]), (Value.slice a1.a a1.n a1.c)] [(Sh.one (CT.int IntKind.i64))] u K
def C.wide_Sqrt (a0_0 : Int) (a0_1 : Int) (u : H) (K : Int → H → Prop) : Prop := ClT Tryz.prog 193 #[(Value.agg #[(Value.int IntKind.u64 a0_0), (Value.int IntKind.u64 a0_1)])] [(Sh.one (CT.int IntKind.u64))] u K
def C.flat_Walk (a0 : Sl) (a1 : Sl) (a2 : Int) (a3 : Int) (u : H) (K : Sl → Sl → Sl → H → Prop) : Prop := ClT Tryz.prog 194 #[(Value.slice a0.a a0.n a0.c), (Value.slice a1.a a1.n a1.c), (Value.int IntKind.i64 a2), (Value.int IntKind.i64 a3)] [(Sh.agg [CT.slice, CT.slice, CT.slice])] u K
def C.vec_CheckRegion (a0_0 : Int) (a0_1 : Sl) (a0_2 : Sl) (a0_3 : Int) (a0_4 : Int) (a0_5 : Sl) (a1 : Int) (u : H) (K : Int → H → Prop) : Prop := ClT Tryz.prog 195 #[(Value.agg #[(Value.int IntKind.i64 a0_0), (Value.slice a0_1.a a0_1.n a0_1.c), (Value.slice a0_2.a a0_2.n a0_2.c), (Value.int IntKind.u64 a0_3), (Value.int IntKind.u64 a0_4), (Value.slice a0_5.a a0_5.n a0_5.c)]), (Value.int IntKind.i64 a1)] [(Sh.one (CT.int IntKind.i64))] u K
def C.flat_Walk_1 (a0 : (Option Addr)) (a1 : Addr) (a2 : Addr) (u : H) (K : H → Prop) : Prop := ClT Tryz.prog 196 #[(Value.pointer a0), (Value.pointer (some a1)), (Value.pointer (some a2))] [] u K
def C.flat_Walk_2 (a0_0 : Int) (a0_1 : Int) (a1 : Addr) (u : H) (K : Bool → H → Prop) : Prop := ClT Tryz.prog 197 #[(Value.agg #[(Value.int IntKind.u64 a0_0), (Value.int IntKind.u64 a0_1)]), (Value.pointer (some a1))] [(Sh.one CT.bool)] u K
def C.topk_Heap__Worst (a0 : (Option Addr)) (u : H) (K : Int → Int → Int → Bool → H → Prop) : Prop := ClT Tryz.prog 198 #[(Value.pointer a0)] [(Sh.agg [(CT.int IntKind.i64), (CT.int IntKind.u64), (CT.int IntKind.u64)]), (Sh.one CT.bool)] u K
def C.topk_Heap__Full (a0 : (Option Addr)) (u : H) (K : Bool → H → Prop) : Prop := ClT Tryz.prog 199 #[(Value.pointer a0)] [(Sh.one CT.bool)] u K
def C.flat_queue__Len (a0 : Sl) (u : H) (K : Int → H → Prop) : Prop := ClT Tryz.prog 200 #[(Value.slice a0.a a0.n a0.c)] [(Sh.one (CT.int IntKind.i64))] u K
def C.flat_region (a0_0 : Int) (a0_1 : Sl) (a0_2 : Sl) (a0_3 : Int) (a0_4 : Int) (a0_5 : Sl) (a1 : Sl) (u : H) (K : Int → Sl → Sl → Int → Int → Sl → H → Prop) : Prop := ClT Tryz.prog 201 #[(Value.agg #[(Value.int IntKind.i64 a0_0), (Value.slice a0_1.a a0_1.n a0_1.c), (Value.slice a0_2.a a0_2.n a0_2.c), (Value.int IntKind.u64 a0_3), (Value.int IntKind.u64 a0_4), (Value.slice a0_5.a a0_5.n a0_5.c)]), (Value.slice a1.a a1.n a1.c)] [(Sh.agg [(CT.int IntKind.i64), CT.slice, CT.slice, (CT.int IntKind.u64), (CT.int IntKind.u64), CT.slice])] u K
def C.flat_Part__All (a0 : (Option Addr)) (u : H) (K : Sl → H → Prop) : Prop := ClT Tryz.prog 202 #[(Value.pointer a0)] [(Sh.one CT.slice)] u K
def C.topk_Heap__Len (a0 : (Option Addr)) (u : H) (K : Int → H → Prop) : Prop := ClT Tryz.prog 203 #[(Value.pointer a0)] [(Sh.one (CT.int IntKind.i64))] u K
def C.vptree_Tree__Delete (a0 : (Option Addr)) (a1 : Int) (u : H) (K : Bool → Int → H → Prop) : Prop := ClT Tryz.prog 204 #[(Value.pointer a0), (Value.int IntKind.i64 a1)] [(Sh.one CT.bool), (Sh.one (CT.int IntKind.i64))] u K
def C.vptree_Tree__Len (a0 : (Option Addr)) (u : H) (K : Int → H → Prop) : Prop := ClT Tryz.prog 205 #[(Value.pointer a0)] [(Sh.one (CT.int IntKind.i64))] u K
def C.vptree_Tree__Put (a0 : (Option Addr)) (a1_0 : Int) (a1_1 : Sl) (u : H) (K : Bool → Int → H → Prop) : Prop := ClT Tryz.prog 206 #[(Value.pointer a0), (Value.agg #[(Value.int IntKind.i64 a1_0), (Value.slice a1_1.a a1_1.n a1_1.c)])] [(Sh.one CT.bool), (Sh.one (CT.int IntKind.i64))] u K
def C.vptree_Tree__Search (a0 : (Option Addr)) (a1 : Sl) (a2 : Int) (a3 : Int) (u : H) (K : Sl → Sl → Sl → Int → H → Prop) : Prop := ClT Tryz.prog 208 #[(Value.pointer a0), (Value.slice a1.a a1.n a1.c), (Value.int IntKind.i64 a2), (Value.int IntKind.i64 a3)] [(Sh.agg [CT.slice, CT.slice, CT.slice]), (Sh.one (CT.int IntKind.i64))] u K
def C.vptree_Tree__Delete_1 (a0 : (Option Addr)) (a1 : Addr) (a2 : Addr) (u : H) (K : H → Prop) : Prop := ClT Tryz.prog 209 #[(Value.pointer a0), (Value.pointer (some a1)), (Value.pointer (some a2))] [] u K
def C.vptree_Tree__Delete_1_1 (a0_0 : Int) (a0_1 : Sl) (a1 : Addr) (u : H) (K : Bool → H → Prop) : Prop := ClT Tryz.prog 210 #[(Value.agg #[(Value.int IntKind.i64 a0_0), (Value.slice a0_1.a a0_1.n a0_1.c)]), (Value.pointer (some a1))] [(Sh.one CT.bool)] u K
def C.vptree_grow (a0 : (Option Addr)) (a1 : Sl) (u : H) (K : Int → Int → H → Prop) : Prop := ClT Tryz.prog 211 #[(Value.pointer a0), (Value.slice a1.a a1.n a1.c)] [(Sh.agg [(CT.int IntKind.u64), (CT.int IntKind.u64)])] u K
def C.topk_hits__Len (a0 : Sl) (u : H) (K : Int → H → Prop) : Prop := ClT Tryz.prog 257 #[(Value.slice a0.a a0.n a0.c)] [(Sh.one (CT.int IntKind.i64))] u K
def C.topk_hits__Less (a0 : Sl) (a1 : Int) (a2 : Int) (u : H) (K : Bool → H → Prop) : Prop := ClT Tryz.prog 258 #[(Value.slice a0.a a0.n a0.c), (Value.int IntKind.i64 a1), (Value.int IntKind.i64 a2)] [(Sh.one CT.bool)] u K
def C.topk_hits__Swap (a0 : Sl) (a1 : Int) (a2 : Int) (u : H) (K : H → Prop) : Prop := ClT Tryz.prog 259 #[(Value.slice a0.a a0.n a0.c), (Value.int IntKind.i64 a1), (Value.int IntKind.i64 a2)] [] u K
def C.topk_hits__Push (a0 : (Option Addr)) (a1 : Value) (u : H) (K : H → Prop) : Prop := ClT Tryz.prog 265 #[(Value.pointer a0), a1] [] u K
def C.flat_queue__Less (a0 : Sl) (a1 : Int) (a2 : Int) (u : H) (K : Bool → H → Prop) : Prop := ClT Tryz.prog 267 #[(Value.slice a0.a a0.n a0.c), (Value.int IntKind.i64 a1), (Value.int IntKind.i64 a2)] [(Sh.one CT.bool)] u K
def C.flat_queue__Swap (a0 : Sl) (a1 : Int) (a2 : Int) (u : H) (K : H → Prop) : Prop := ClT Tryz.prog 268 #[(Value.slice a0.a a0.n a0.c), (Value.int IntKind.i64 a1), (Value.int IntKind.i64 a2)] [] u K
def C.flat_queue__Pop (a0 : (Option Addr)) (u : H) (K : Value → H → Prop) : Prop := ClT Tryz.prog 269 #[(Value.pointer a0)] [(Sh.one CT.val)] u K
def C.flat_queue__Push (a0 : (Option Addr)) (a1 : Value) (u : H) (K : H → Prop) : Prop := ClT Tryz.prog 270 #[(Value.pointer a0), a1] [] u K
end Go.Proofs.YtbohcdjoglidhaaGreatDoor

/- VcUser -/
namespace Go.Proofs.YtbohcdjoglidhaaGreatDoor

theorem H.cell?_mono {u u' : H} (h : u.le u') {a : Addr} {v : Value} (e : u.cell? a = some v) : u'.cell? a = some v := by
  unfold H.cell? at e ⊢
  split at e
  · rename_i c t f hb
    rw [h _ _ hb]
    exact e
  · cases e

/-- An answer that leaves the world alone. -/
theorem SemT.pure {P : Program} {m : Sem Value} {ss : List Sh} {u : H} {K : Cur (ctsOf ss) (H → Prop)} (vs : List Value) (h : ∀ w, Sub u w → m.run P w = .ok (encRes ss vs) w)
    (hk : Kinds (ctsOf ss) vs) (hK : unC (ctsOf ss) K vs fun r => r u) : SemT P m ss u K :=
  fun w hw => ⟨_, w, u, h w hw, ⟨vs, hk, rfl, hK⟩, Step.refl hw⟩

/-- Cells of a slice's elements, each of so many cells. -/
structure Seg (u : H) (s : Sl) (size : Nat) (xs : List Value) : Prop where
  len : xs.length = s.n * size
  cap : s.n ≤ s.c
  max : s.c ≤ 9223372036854775807
  at' : xs = [] ∨ ∃ p, s.a = some p ∧ ∀ i v, xs[i]? = some v → u.cell? (p.add i) = some v

theorem Seg.mono {u u' : H} {s : Sl} {size : Nat} {xs : List Value} (h : Seg u s size xs) (k : u.le u') : Seg u' s size xs :=
  ⟨h.len, h.cap, h.max, h.at'.imp id fun ⟨p, h1, h2⟩ => ⟨p, h1, fun i v e => H.cell?_mono k (h2 i v e)⟩⟩

theorem Seg.get {u : H} {s : Sl} {size : Nat} {xs : List Value} (h : Seg u s size xs) {i : Nat} (hi : i < xs.length) : ∃ p, s.a = some p ∧ ∀ i v, xs[i]? = some v → u.cell? (p.add i) = some v := by
  rcases h.at' with h | h
  · subst h; simp at hi
  · exact h

/-- A slice of ints. -/
def Ints (u : H) (s : Sl) (l : List Int) : Prop := Seg u s 1 (l.map fun x => .int .i64 x)

theorem Ints.mono {u u' : H} {s : Sl} {l : List Int} (h : Ints u s l) (k : u.le u') : Ints u' s l := Seg.mono h k
theorem Ints.len {u : H} {s : Sl} {l : List Int} (h : Ints u s l) : s.n = l.length := by
  have := Seg.len h; simp at this; exact this.symm
theorem Ints.max {u : H} {s : Sl} {l : List Int} (h : Ints u s l) : s.n ≤ 9223372036854775807 := Nat.le_trans (Seg.cap h) (Seg.max h)

/-- An element read through the formula's own words. -/
theorem Ints.read {u : H} {s : Sl} {l : List Int} (h : Ints u s l) {x : Int} (h0 : 0 ≤ x) (h1 : x < (s.n : Int)) :
    ∃ p, s.a = some p ∧ ∃ (hl : x.toNat < l.length), u.cell? (p.add (x.toNat * 1)) = some (.int .i64 l[x.toNat]) := by
  have hn := h.len
  have hlt : x.toNat < l.length := by omega
  obtain ⟨p, hp, hc⟩ := Seg.get h (i := x.toNat) (by simpa using hlt)
  refine ⟨p, hp, hlt, ?_⟩
  rw [Nat.mul_one]
  exact hc _ _ (by simp [hlt])

/-- The same, the element by its number. -/
theorem Ints.at {u : H} {s : Sl} {l : List Int} (h : Ints u s l) {x : Int} (h0 : 0 ≤ x) (h1 : x < (s.n : Int)) : ∃ p, s.a = some p ∧ u.cell? (p.add (x.toNat * 1)) = some (.int .i64 (l.getD x.toNat 0)) := by
  obtain ⟨p, hp, hl, hc⟩ := h.read h0 h1
  exact ⟨p, hp, by rw [hc]; simp [hl]⟩

end Go.Proofs.YtbohcdjoglidhaaGreatDoor
