/- A body's formula, and that it is sound. -/
import Derived.Test.YtgfafpiinencpaaGreatVcRegion
import Derived.Scope
import Derived.RangeFuncLeaves
import Derived.RangeFuncRecord
namespace Go.Proofs.YtgfafpiinencpaaGreat

/-- Slots and boxes that are told anew where ways meet, or at a loop's head. -/
structure Ann where
  slots : List (Nat × CT)
  boxes : List (Nat × List CT)

def Ann.tys (a : Ann) : List CT := a.slots.map (·.2) ++ a.boxes.flatMap (·.2)

def annAt : List (Nat × Ann) → Nat → Option Ann
  | [], _ => none
  | (i, x) :: r, j => match Nat.beq i j with
    | true => some x
    | false => annAt r j

def codeDsts : Code → List Nat
  | .seq a b => codeDsts a ++ codeDsts b
  | .cond _ a b => codeDsts a ++ codeDsts b
  | .block _ b => codeDsts b
  | .loop b => codeDsts b
  | .scope b => codeDsts b
  | .region _ ops _ => ops.toList.filterMap fun o => o.dst
  | _ => []

def slotVals (s : St) : List (Nat × CT) → Option (List Value)
  | [] => some []
  | (d, _) :: r => match (look s.env d).bind SV.val, slotVals s r with
    | some v, some vs => some (v :: vs)
    | _, _ => none

def boxVals (s : St) : List (Nat × List CT) → Option (List Value)
  | [] => some []
  | (i, ts) :: r => match s.loc[i]?, boxVals s r with
    | some cs, some vs => match Nat.beq cs.length ts.length with
      | true => some (cs ++ vs)
      | false => none
    | _, _ => none

def valsAt (s : St) (an : Ann) : Option (List Value) :=
  match s.dfs with
  | none => match slotVals s an.slots, boxVals s an.boxes with
    | some a, some b => some (a ++ b)
    | _, _ => none
  | some _ => none

/-- Slots whose values are known. -/
def envVals : List (Nat × SV) → List (Nat × Value)
  | [] => []
  | (d, x) :: r => match x.val with
    | some v => (d, v) :: envVals r
    | none => envVals r

/-- The first range over a function in a body. -/
def rgOf : Code → Option Code
  | .rangeFunc g p x y => some (.rangeFunc g p x y)
  | .seq a b => match rgOf a with
    | some c => some c
    | none => rgOf b
  | .cond _ a b => match rgOf a with
    | some c => some c
    | none => rgOf b
  | .block _ b => rgOf b
  | .scope b => rgOf b
  | .loop b => rgOf b
  | _ => none
def rgCode (c : Code) : Code := (rgOf c).getD .skip

/-- A statement that the formula does not look into: it is left at its end, its temporaries as they were; D: its mark. -/
def RgS (P : Program) (c : Code) (n : Nat) (env : List (Nat × Value)) (u : H) (K : Nat → H → Prop) : Prop :=
  ∀ a w, a.tmps.size = n → (∀ p ∈ env, a.tmps[p.1]? = some p.2) → a.defers = [] → Sub u w →
    c.wp P (fun e a' w' => e = .normal ∧ a'.tmps = a.tmps ∧ ∃ D u', a'.defers = dfsOf (some D) ∧ K D u' ∧ Step u [] w u' [] w') a w

/-- A pointer that is told to lead somewhere. -/
def svOf : CT → Value → SV
  | .addr, .pointer (some p) => .ptr p
  | _, v => .v v

theorem svOf_conc (t : CT) (v : Value) (bs : List Nat) : conc bs (svOf t v) = some v := by
  unfold svOf
  split <;> rfl

def zipSlots : List (Nat × CT) → List Value → List (Nat × SV)
  | (d, t) :: r, v :: vs => (d, svOf t v) :: zipSlots r vs
  | _, _ => []

def setBoxes : List (List Value) → List (Nat × List CT) → List Value → List (List Value)
  | loc, [], _ => loc
  | loc, (i, ts) :: r, vs => setBoxes (setL loc i (vs.take ts.length)) r (vs.drop ts.length)

def keepEnv (ds : List Nat) : List (Nat × SV) → List (Nat × SV)
  | [] => []
  | (d, x) :: r => match memB ds d with
    | true => keepEnv ds r
    | false => (d, x) :: keepEnv ds r

/-- The state told anew. -/
def anew (s : St) (ds : List Nat) (an : Ann) (vs : List Value) : St :=
  { n := s.n, env := zipSlots an.slots vs ++ keepEnv ds s.env, loc := setBoxes s.loc an.boxes (vs.drop an.slots.length) }

def narrow (wrt : Nat → Bool) (cnt : Nat) (bx : List (Nat × List CT)) (i : Nat) : Bool :=
  match Nat.blt i cnt with
  | true => memB (bx.map (·.1)) i && wrt i
  | false => true

def tellC (s : St) (c : Operand) (x : SV) : St :=
  match c with
  | .tmp t => s.put (some t) x
  | _ => s

def WPc (C : Cfg) (ann : List (Nat × Ann)) : Code → Nat → (Nat → Bool) → (Exit → St → H → Prop) → St → H → Prop
  | .skip, _, _, Q, s, u => Q .normal s u
  | .label _, _, _, Q, s, u => Q .normal s u
  | .ret, _, _, Q, s, u => Q .ret s u
  | .exit id, _, _, Q, s, u => Q (.exit id) s u
  | .seq x y, p, wrt, Q, s, u => match annAt ann p with
    | none => WPc C ann x (2 * p) wrt (fun e s' u' => match e with
      | .normal => WPc C ann y (2 * p + 1) wrt Q s' u'
      | e => Q e s' u') s u
    | some an => ∀ K : Cur an.tys (H → Prop),
        allC an.tys (fun vs => ∀ u1, WPc C ann y (2 * p + 1) wrt Q (anew s (codeDsts x) an vs) u1 → unC an.tys K vs fun r => r u1) →
        WPc C ann x (2 * p) (narrow wrt s.loc.length an.boxes) (fun e s' u' => match e with
          | .normal => match valsAt s' an with
            | some vs => unC an.tys K vs fun r => r u'
            | none => False
          | e => Q e s' u') s u
  | .cond c x y, p, wrt, Q, s, u => match s.sv c with
    | some .tt => WPc C ann x (2 * p) wrt Q s u
    | some .ff => WPc C ann y (2 * p + 1) wrt Q s u
    | some (.dec q _) => (q → WPc C ann x (2 * p) wrt Q (tellC s c .tt) u) ∧ (¬ q → WPc C ann y (2 * p + 1) wrt Q (tellC s c .ff) u)
    | some (.ndec q _) => (¬ q → WPc C ann x (2 * p) wrt Q (tellC s c .tt) u) ∧ (q → WPc C ann y (2 * p + 1) wrt Q (tellC s c .ff) u)
    | some (.v (.bool b)) => (b = true → WPc C ann x (2 * p) wrt Q (tellC s c .tt) u) ∧ (b = false → WPc C ann y (2 * p + 1) wrt Q (tellC s c .ff) u)
    | _ => False
  | .block id b, p, wrt, Q, s, u => WPc C ann b (2 * p) wrt (fun e s' u' => match e with
    | .exit j => match Nat.beq j id with
      | true => Q .normal s' u'
      | false => Q (.exit j) s' u'
    | e => Q e s' u') s u
  | .scope b, p, wrt, Q, s, u => WPc C ann b (2 * p) wrt (fun e s' u' => match e with
    | .goto _ => False
    | e => Q e s' u') s u
  | .loop b, p, wrt, Q, s, u => match annAt ann p with
    | none => False
    | some an => match valsAt s an with
      | none => False
      | some vs0 => ∃ I : Cur an.tys (H → Prop), ∃ μ : Cur an.tys (H → Nat), (unC an.tys I vs0 fun r => r u) ∧
          allC an.tys fun vs => ∀ u1, (unC an.tys I vs fun r => r u1) →
            WPc C ann b (2 * p) (narrow wrt s.loc.length an.boxes) (fun e s' u' => match e with
              | .normal => match valsAt s' an with
                | some vs' => unC an.tys I vs' fun r => unC an.tys μ vs' fun m => unC an.tys μ vs fun m0 => r u' ∧ m u' < m0 u1
                | none => False
              | e => Q e s' u') (anew s (codeDsts b) an vs) u1
  | .region _ ops false, _, wrt, Q, s, u => seqW C wrt ops ops.toList s u (Q .normal)
  | .rangeFunc g ps x y, _, _, Q, s, u => match s.dfs with
    | none => RgS C.P (.rangeFunc g ps x y) s.n (envVals s.env) u fun D u' => Q .normal { s with dfs := some D } u'
    | some _ => False
  | .region _ ops true, _, wrt, Q, s, u => match Region.noSelect ops with
    | true => drawW C wrt ops u (ops.size + 1) (Array.replicate ops.size false) true s u (Q .normal)
    | false => False
  | _, _, _, _, _, _ => False

section
variable {C : Cfg} {wrt : Nat → Bool} {s : St} {u : H} {bs : List Nat} {a : Act} {w : World}

def Post (wrt : Nat → Bool) (s : St) (bs : List Nat) (u : H) (a : Act) (w : World) (ds : List Nat) (Q : Exit → St → H → Prop) (e : Exit) (a' : Act) (w' : World) : Prop :=
  (∀ c, e ≠ .panic c) ∧ ∃ s' u' bs', Q e s' u' ∧ Fits s' bs' u' a' w' ∧ Step u bs w u' bs' w' ∧ Kept wrt s s' ∧ ∀ d, memB ds d = false → a'.tmps[d]? = a.tmps[d]?

theorem memB_append (a b : List Nat) (d : Nat) : memB (a ++ b) d = (memB a d || memB b d) := by simp [memB]

theorem Post.mono {ds ds' : List Nat} {Q : Exit → St → H → Prop} {e : Exit} {a' : Act} {w' : World} (h : Post wrt s bs u a w ds Q e a' w') (hd : ∀ d, memB ds' d = false → memB ds d = false) :
    Post wrt s bs u a w ds' Q e a' w' := by
  obtain ⟨h1, s', u', bs', h2, h3, h4, h5, h6⟩ := h
  exact ⟨h1, s', u', bs', h2, h3, h4, h5, fun d h => h6 d (hd d h)⟩

theorem Post.next {s1 : St} {u1 : H} {bs1 : List Nat} {a1 : Act} {w1 : World} {ds : List Nat} {Q : Exit → St → H → Prop} {e : Exit} {a' : Act} {w' : World} (hs : Step u bs w u1 bs1 w1) (hk : Kept wrt s s1)
    (ha : ∀ d, memB ds d = false → a1.tmps[d]? = a.tmps[d]?) (h : Post wrt s1 bs1 u1 a1 w1 ds Q e a' w') : Post wrt s bs u a w ds Q e a' w' := by
  obtain ⟨h1, s', u', bs', h2, h3, h4, h5, h6⟩ := h
  exact ⟨h1, s', u', bs', h2, h3, hs.trans h4, hk.trans h5, fun d h => (h6 d h).trans (ha d h)⟩

/-- Blocks of one's own that are let go. -/
theorem Step.forget {u u' : H} {bs bs' : List Nat} {w w' : World} (h : Step u bs w u' bs' w') : Step u bs w u' bs w' :=
  ⟨h.sub, h.os, h.tape, h.output, h.drawn, h.size, h.rest, h.honest, [], by simp, by simp⟩

theorem slotVals_len {l : List (Nat × CT)} {vs : List Value} (h : slotVals s l = some vs) : vs.length = l.length := by
  induction l generalizing vs with
  | nil => simp [slotVals] at h; subst h; rfl
  | cons p r ih =>
    simp only [slotVals] at h
    split at h
    · rename_i v vs' hv hvs; cases h; simp [ih hvs]
    · cases h

theorem zipSlots_app {l : List (Nat × CT)} {vs ws : List Value} (h : vs.length = l.length) : zipSlots l (vs ++ ws) = zipSlots l vs := by
  induction l generalizing vs with
  | nil =>
    cases vs with
    | nil => cases ws <;> rfl
    | cons => simp at h
  | cons p r ih =>
    cases vs with
    | nil => simp at h
    | cons v vs => simp only [List.cons_append, zipSlots]; rw [ih (by simpa using h)]

theorem zipSlots_env {bs' : List Nat} {l : List (Nat × CT)} {vs : List Value} (hf : FitsE s bs a) (h : slotVals s l = some vs) :
    ∀ p ∈ zipSlots l vs, ∃ v, conc bs' p.2 = some v ∧ a.tmps[p.1]? = some v := by
  induction l generalizing vs with
  | nil => intro p hp; simp [zipSlots] at hp
  | cons q r ih =>
    simp only [slotVals] at h
    split at h
    · rename_i v vs' hv hvs
      cases h
      intro p hp
      simp only [zipSlots] at hp
      cases hp with
      | head =>
        simp only [Option.bind_eq_some_iff] at hv
        obtain ⟨x, hx, hxv⟩ := hv
        obtain ⟨v', h1, h2⟩ := hf.env _ (look_mem hx)
        simp only at h1 h2
        rw [SV.val_conc hxv bs] at h1
        cases h1
        exact ⟨v, svOf_conc _ _ _, h2⟩
      | tail _ hp => exact ih hvs p hp
    · cases h

theorem keepEnv_mem {ds : List Nat} {l : List (Nat × SV)} {p : Nat × SV} (h : p ∈ keepEnv ds l) : p ∈ l ∧ memB ds p.1 = false := by
  induction l with
  | nil => cases h
  | cons q r ih =>
    obtain ⟨d, x⟩ := q
    simp only [keepEnv] at h
    split at h
    · exact ⟨.tail _ (ih h).1, (ih h).2⟩
    · rename_i e
      cases h with
      | head => exact ⟨.head _, e⟩
      | tail _ h => exact ⟨.tail _ (ih h).1, (ih h).2⟩

theorem setBoxes_len : ∀ (bx : List (Nat × List CT)) (loc : List (List Value)) (vs : List Value), (setBoxes loc bx vs).length = loc.length := by
  intro bx
  induction bx with
  | nil => intro loc vs; rfl
  | cons p r ih => intro loc vs; simp only [setBoxes]; rw [ih, setL_len]

/-- Each box told anew holds what it holds; the others are as they were. -/
theorem setBoxes_spec {s' : St} {cnt : Nat} (hcnt : cnt ≤ s'.loc.length) : ∀ (bx : List (Nat × List CT)) (loc : List (List Value)) (vs : List Value), boxVals s' bx = some vs → loc.length = cnt →
    (∀ (i : Nat) (cs : List Value), loc[i]? = some cs → memB (bx.map (·.1)) i = false → s'.loc[i]? = some cs) → ∀ (i : Nat) (cs : List Value), (setBoxes loc bx vs)[i]? = some cs → s'.loc[i]? = some cs := by
  intro bx
  induction bx with
  | nil => intro loc vs _ _ h i cs e; exact h i cs e rfl
  | cons p r ih =>
    obtain ⟨j, ts⟩ := p
    intro loc vs h hl hk i cs e
    simp only [boxVals] at h
    split at h
    · rename_i cs' vs' hj hvs
      split at h
      · rename_i hlen
        cases h
        have hlen' := Nat.eq_of_beq_eq_true hlen
        simp only [setBoxes] at e
        rw [← hlen', List.take_left, List.drop_left] at e
        refine ih (setL loc j cs') vs' hvs (by rw [setL_len]; exact hl) ?_ i cs e
        intro i' cs2 e2 hm
        rw [setL_get] at e2
        split at e2
        · rename_i hji
          cases e2
          rw [← hji.1]; exact hj
        · rename_i hji
          refine hk i' cs2 e2 ?_
          simp only [List.map_cons, memB, List.any_cons, Bool.or_eq_false_iff]
          refine ⟨?_, hm⟩
          cases hb : Nat.beq i' j with
          | false => rfl
          | true =>
            have := Nat.eq_of_beq_eq_true hb
            subst this
            have hlt : i' < loc.length := by
              rcases Nat.lt_or_ge i' loc.length with k | k
              · exact k
              · rw [List.getElem?_eq_none k] at e2; cases e2
            exact absurd ⟨rfl, hlt⟩ hji
      · cases h
    · cases h

/-- The state told anew fits where the state that was come to fits. -/
theorem Fits.anew {s' : St} {u' : H} {bs' : List Nat} {a' : Act} {w' : World} {ds : List Nat} {an : Ann} {vs : List Value} (hf : Fits s bs u a w) (hf' : Fits s' bs' u' a' w') (hs : Step u bs w u' bs' w')
    (hk : Kept (narrow wrt s.loc.length an.boxes) s s') (ha : ∀ d, memB ds d = false → a'.tmps[d]? = a.tmps[d]?) (hv : valsAt s' an = some vs) :
    Fits (anew s ds an vs) bs u' a' w' := by
  unfold valsAt at hv
  split at hv
  rotate_left
  · cases hv
  rename_i hdn
  split at hv
  · rename_i va vb hva hvb
    cases hv
    have hla := slotVals_len hva
    obtain ⟨ext, hext, _⟩ := hs.more
    have hz : zipSlots an.slots (va ++ vb) = zipSlots an.slots va := zipSlots_app hla
    have hd : (va ++ vb).drop an.slots.length = vb := by rw [← hla, List.drop_left]
    refine ⟨⟨by rw [hf'.defers, hdn]; rfl, by rw [hf'.n, hk.n]; rfl, ?_⟩, ?_, ?_, hf.nodup, ?_, hf'.sub⟩
    · intro p hp
      simp only [Go.Proofs.YtgfafpiinencpaaGreat.anew, hz] at hp
      rcases List.mem_append.1 hp with hp | hp
      · exact zipSlots_env hf'.toFitsE hva p hp
      · obtain ⟨h1, h2⟩ := keepEnv_mem hp
        obtain ⟨v, h3, h4⟩ := hf.env p h1
        exact ⟨v, h3, (ha p.1 h2).trans h4⟩
    · simp only [Go.Proofs.YtgfafpiinencpaaGreat.anew, setBoxes_len]; exact hf.len
    · intro i cs e
      simp only [Go.Proofs.YtgfafpiinencpaaGreat.anew, hd] at e
      have hlt : i < s.loc.length := by
        rcases Nat.lt_or_ge i s.loc.length with k | k
        · exact k
        · rw [List.getElem?_eq_none (by rw [setBoxes_len]; exact k)] at e; cases e
      have h1 := setBoxes_spec hk.len an.boxes s.loc vb hvb rfl (fun j cs2 e2 hm => by
        refine hk.same j cs2 e2 ?_
        have hjlt : j < s.loc.length := by
          rcases Nat.lt_or_ge j s.loc.length with k | k
          · exact k
          · rw [List.getElem?_eq_none k] at e2; cases e2
        unfold narrow
        have : Nat.blt j s.loc.length = true := by simpa using hjlt
        rw [this]
        simp [hm]) i cs e
      obtain ⟨b, T, h2, h3⟩ := hf'.loc i cs h1
      refine ⟨b, T, ?_, h3⟩
      rw [hext, List.getElem?_append_left (by rw [hf.len]; exact hlt)] at h2
      exact h2
    · intro b hb
      exact hf'.hid b (by rw [hext]; exact List.mem_append_left _ hb)
  · cases hv

theorem anew_kept {ds : List Nat} {an : Ann} {vs : List Value} {s' : St} (hk : Kept (narrow wrt s.loc.length an.boxes) s s') (hv : valsAt s' an = some vs) :
    Kept (narrow wrt s.loc.length an.boxes) s (anew s ds an vs) := by
  unfold valsAt at hv
  split at hv
  rotate_left
  · cases hv
  rename_i hdn
  split at hv
  · rename_i va vb hva hvb
    cases hv
    have hla := slotVals_len hva
    have hd : (va ++ vb).drop an.slots.length = vb := by rw [← hla, List.drop_left]
    refine ⟨rfl, by simp only [anew, setBoxes_len]; exact Nat.le_refl _, fun i cs e hw => ?_⟩
    simp only [anew, hd]
    have hlt : i < s.loc.length := by
      rcases Nat.lt_or_ge i s.loc.length with k | k
      · exact k
      · rw [List.getElem?_eq_none k] at e; cases e
    have h1 := setBoxes_spec hk.len an.boxes s.loc vb hvb rfl (fun j cs2 e2 hm => by
        refine hk.same j cs2 e2 ?_
        have hjlt : j < s.loc.length := by
          rcases Nat.lt_or_ge j s.loc.length with k | k
          · exact k
          · rw [List.getElem?_eq_none k] at e2; cases e2
        unfold narrow
        have : Nat.blt j s.loc.length = true := by simpa using hjlt
        rw [this]
        simp [hm]) i
    have h2 := hk.same i cs e hw
    cases h3 : (setBoxes s.loc an.boxes vb)[i]? with
    | none =>
      have : i < (setBoxes s.loc an.boxes vb).length := by rw [setBoxes_len]; exact hlt
      rw [List.getElem?_eq_getElem this] at h3; cases h3
    | some x =>
      have h4 := h1 _ h3
      rw [h2] at h4
      exact h4.symm
  · cases hv

theorem narrow_kept {cnt : Nat} {bx : List (Nat × List CT)} {s1 s2 : St} (hc : s1.loc.length = cnt) (k : Kept (narrow wrt cnt bx) s1 s2) : Kept wrt s1 s2 := by
  refine ⟨k.n, k.len, fun i cs e hw => k.same i cs e ?_⟩
  have hlt : i < cnt := by
    rw [← hc]
    rcases Nat.lt_or_ge i s1.loc.length with h | h
    · exact h
    · rw [List.getElem?_eq_none h] at e; cases e
  unfold narrow
  have : Nat.blt i cnt = true := by simpa using hlt
  rw [this]
  simp [hw]

/-- A loop whose invariant bears a ghost. -/
theorem wp_loop_g {P : Program} {c : Code} {Q : Exit → Act → World → Prop} {G : Type} (I : G → Act → World → Prop) (μ : G → Nat)
    (round : ∀ g a w, I g a w → c.wp P (Exit.then (fun a' w' => ∃ g', I g' a' w' ∧ μ g' < μ g) Q) a w) {a : Act} {w : World} (g : G) (h : I g a w) : (Code.loop c).wp P Q a w := by
  intro b k cs
  have key : ∀ n g a w, μ g = n → I g a w →
      ∃ e a' w', Q e a' w' ∧ Arrives P (lone (b.at a (.code c :: .inLoop c :: k)) cs w) b k cs e a' w' := by
    intro n
    induction n using Nat.strongRecOn with
    | _ n ih =>
      intro g a w hn hI
      obtain ⟨e, a₁, w₁, hq, harr⟩ := round g a w hI b (.inLoop c :: k) cs
      cases e with
      | normal =>
        obtain ⟨g₁, hI₁, hlt⟩ := hq
        obtain ⟨e₂, a₂, w₂, hq₂, harr₂⟩ := ih (μ g₁) (hn ▸ hlt) g₁ a₁ w₁ rfl hI₁
        exact ⟨e₂, a₂, w₂, hq₂, .of_steps (Steps.trans harr (.one step_inLoop)) harr₂⟩
      | exit id => exact ⟨_, a₁, w₁, hq, .pass (x := .inLoop c) rfl (fun _ _ => .inl (by simp)) harr⟩
      | goto l => exact ⟨_, a₁, w₁, hq, .pass (x := .inLoop c) rfl (fun _ _ => .inl (by simp)) harr⟩
      | ret => exact ⟨_, a₁, w₁, hq, .pass (x := .inLoop c) rfl (fun _ _ => .inl (by simp)) harr⟩
      | panic ch => exact ⟨_, a₁, w₁, hq, .pass (x := .inLoop c) rfl (fun _ _ => .inl (by simp)) harr⟩
      | outgrown => exact ⟨_, a₁, w₁, hq, .pass (x := .inLoop c) rfl (fun _ _ => .inl (by simp)) harr⟩
  obtain ⟨e, a', w', hq, harr⟩ := key _ g a w rfl h
  exact ⟨e, a', w', hq, .of_steps (.one step_loop) harr⟩

theorem unC_mono {R : Type} {ts : List CT} {I : Cur ts R} {vs : List Value} {f g : R → Prop} (h : unC ts I vs f) (hfg : ∀ r, f r → g r) : unC ts I vs g := by
  obtain ⟨r, hr⟩ := unC_val I (unC_kinds h)
  exact (hr _).2 (hfg _ ((hr _).1 h))

theorem dst_mem {id : Nat} {ops : Array Oper} {dr : Bool} {o : Oper} (ho : o ∈ ops.toList) {d : Nat} (hd : o.dst = some d) : memB (codeDsts (.region id ops dr)) d = true := by
  simp only [codeDsts, memB, List.any_eq_true]
  exact ⟨d, List.mem_filterMap.2 ⟨o, ho, hd⟩, Nat.beq_refl d⟩

theorem tell_fits {c : Operand} {x : SV} (hf : Fits s bs u a w) (hx : conc bs x = some (a.eval c)) (hn : ∀ t, c = .tmp t → (look s.env t).isSome = true) : Fits (tellC s c x) bs u a w ∧ (tellC s c x).loc = s.loc ∧ (tellC s c x).n = s.n := by
  cases c with
  | tmp t =>
    obtain ⟨y, hy⟩ := Option.isSome_iff_exists.1 (hn t rfl)
    obtain ⟨v, h1, h2⟩ := hf.env _ (look_mem hy)
    simp only at h1 h2
    have hev : a.eval (.tmp t) = v := by simp only [Act.eval]; rw [Array.getD_eq_getD_getElem?, h2]; rfl
    rw [hev] at hx
    have he := hf.toFitsE.tell (d := t) hx h2
    exact ⟨hf.told ⟨he, (put_loc _ _ _).1, (put_loc _ _ _).2⟩, (put_loc _ _ _).1, (put_loc _ _ _).2⟩
  | const v => exact ⟨hf, rfl, rfl⟩
  | global g => exact ⟨hf, rfl, rfl⟩
  | func f => exact ⟨hf, rfl, rfl⟩

theorem envVals_spec {s : St} {bs : List Nat} {a : Act} (hf : FitsE s bs a) : ∀ p ∈ envVals s.env, a.tmps[p.1]? = some p.2 := by
  have key : ∀ l : List (Nat × SV), (∀ p ∈ l, p ∈ s.env) → ∀ p ∈ envVals l, a.tmps[p.1]? = some p.2 := by
    intro l
    induction l with
    | nil => intro _ p hp; cases hp
    | cons q r ih =>
      obtain ⟨d, x⟩ := q
      intro hl p hp
      simp only [envVals] at hp
      split at hp
      · rename_i v hv
        cases hp with
        | head =>
          obtain ⟨v', h1, h2⟩ := hf.env _ (hl _ (.head _))
          simp only at h1 h2
          rw [SV.val_conc hv bs] at h1
          cases h1; exact h2
        | tail _ hp => exact ih (fun p hp => hl p (.tail _ hp)) p hp
      · exact ih (fun p hp => hl p (.tail _ hp)) p hp
  exact key s.env fun _ h => h

set_option maxHeartbeats 1000000 in
theorem code_sound (hG : Good C) (ann : List (Nat × Ann)) : ∀ (c : Code) (p : Nat) (wrt : Nat → Bool) (Q : Exit → St → H → Prop) (s : St) (u : H), WPc C ann c p wrt Q s u →
    ∀ (bs : List Nat) (a : Act) (w : World), Fits s bs u a w → c.wp C.P (Post wrt s bs u a w (codeDsts c) Q) a w := by
  intro c
  have base : ∀ (e : Exit), (∀ c, e ≠ .panic c) → ∀ (ds : List Nat) (wrt : Nat → Bool) (Q : Exit → St → H → Prop) (s : St) (u : H) (bs : List Nat) (a : Act) (w : World), Q e s u → Fits s bs u a w →
      Post wrt s bs u a w ds Q e a w := fun e he ds wrt Q s u bs a w h hf => ⟨he, s, u, bs, h, hf, Step.refl hf.sub, Kept.refl _ _, fun _ _ => rfl⟩
  induction c with
  | skip => intro p wrt Q s u h bs a w hf; exact wp_skip (base _ (fun _ => Exit.noConfusion) _ _ _ _ _ _ _ _ h hf)
  | label l => intro p wrt Q s u h bs a w hf; exact wp_label (base _ (fun _ => Exit.noConfusion) _ _ _ _ _ _ _ _ h hf)
  | ret => intro p wrt Q s u h bs a w hf; exact wp_ret (base _ (fun _ => Exit.noConfusion) _ _ _ _ _ _ _ _ h hf)
  | exit id => intro p wrt Q s u h bs a w hf; exact wp_exit (base _ (fun _ => Exit.noConfusion) _ _ _ _ _ _ _ _ h hf)
  | goto l => intro p wrt Q s u h; exact h.elim
  | refuse r => intro p wrt Q s u h; exact h.elim
  | rangeFunc f ps x y =>
    intro p wrt Q s u h bs a w hf
    simp only [WPc] at h
    split at h
    · rename_i hd
      have hda : a.defers = [] := by rw [hf.defers, hd]; rfl
      refine Code.wp_mono ?_ (h a w hf.n (envVals_spec hf.toFitsE) hda hf.sub)
      rintro e a' w' ⟨rfl, ht, D, u', hd', hK, hs⟩
      refine ⟨fun _ => Exit.noConfusion, _, u', bs, hK, ?_, hs.hide bs, ⟨rfl, Nat.le_refl _, fun _ _ h _ => h⟩, fun _ _ => by rw [ht]⟩
      have hf2 := hf.step hs
      exact ⟨⟨hd', by rw [ht]; exact hf2.n, fun q hq => by rw [ht]; exact hf2.env q hq⟩, hf2.len, hf2.loc, hf2.nodup, hf2.hid, hf2.sub⟩
    · exact h.elim
  | region id ops dr =>
    intro p wrt Q s u h bs a w hf
    cases dr with
    | false =>
      simp only [WPc] at h
      refine wpIn_wide.1 (wpIn_region_list (seq_soundIn hG none (ds := memB (codeDsts (.region id ops false))) ops.toList s u bs a w h hf (.inl rfl) (fun o ho d hd => dst_mem ho hd) ?_))
      intro s' u' bs' a' w' hk hf' hs hkp ha
      exact ⟨fun _ => Exit.noConfusion, s', u', bs', hk, hf', hs, hkp, ha⟩
    | true =>
      simp only [WPc] at h
      split at h
      · rename_i hsel
        refine wp_region_any hG.mixed (wpAny_of_G (nd := ndOf ops) (S := FitsW s.loc bs u) _ _ _ _ ?_)
        have hfd : Fits s bs u a { w with drawn := w.drawn + 1 } := ⟨hf.toFitsE, hf.len, hf.loc, hf.nodup, hf.hid, hf.sub⟩
        refine draw_sound hG (ds := memB (codeDsts (.region id ops true))) (loc0 := s.loc) (bs0 := bs) hsel (fun c a w hp => hp.1 c rfl) (fun o ho d hd => dst_mem ho hd) _ _ _ s u h bs a _ _ hfd ?_ ?_ (fun _ => ⟨rfl, rfl, rfl⟩) ⟨[], by simp⟩ ?_
        · intro j o _ hj
          have : (Array.replicate ops.size false).getD j false = false := by
            rw [Array.getD_eq_getD_getElem?, Array.getElem?_replicate]; split <;> rfl
          rw [this] at hj; cases hj
        · unfold left
          simp
        · intro s' u' bs' a' w' hk hf' hs hkp ha
          exact ⟨fun _ => Exit.noConfusion, s', u', bs', hk, hf', (Step.draws hf.sub (Nat.le_succ _)).trans hs, hkp, ha⟩
      · exact h.elim
  | seq x y ihx ihy =>
    intro p wrt Q s u h bs a w hf
    have hdx : ∀ d, memB (codeDsts (.seq x y)) d = false → memB (codeDsts x) d = false := fun d h => by simp only [codeDsts, memB_append, Bool.or_eq_false_iff] at h; exact h.1
    have hdy : ∀ d, memB (codeDsts (.seq x y)) d = false → memB (codeDsts y) d = false := fun d h => by simp only [codeDsts, memB_append, Bool.or_eq_false_iff] at h; exact h.2
    simp only [WPc] at h
    split at h
    · refine wp_seq (Code.wp_mono ?_ (ihx _ _ _ s u h bs a w hf))
      intro e a' w' hp
      obtain ⟨hne, s', u', bs', hq, hf', hs, hk, ha⟩ := hp
      cases e with
      | normal =>
        refine Code.wp_mono ?_ (ihy _ _ _ s' u' hq bs' a' w' hf')
        intro e2 a2 w2 hp2
        exact Post.next hs hk (fun d hd => ha d (hdx d hd)) (hp2.mono hdy)
      | exit id => exact ⟨hne, s', u', bs', hq, hf', hs, hk, fun d hd => ha d (hdx d hd)⟩
      | goto l => exact ⟨hne, s', u', bs', hq, hf', hs, hk, fun d hd => ha d (hdx d hd)⟩
      | ret => exact ⟨hne, s', u', bs', hq, hf', hs, hk, fun d hd => ha d (hdx d hd)⟩
      | panic c => exact absurd rfl (hne c)
      | outgrown => exact ⟨hne, s', u', bs', hq, hf', hs, hk, fun d hd => ha d (hdx d hd)⟩
    · rename_i an _
      have h' := h (lamC an.tys fun vs u1 => WPc C ann y (2 * p + 1) wrt Q (anew s (codeDsts x) an vs) u1) (by
        have all : ∀ (ts : List CT) (f : List Value → Prop), (∀ vs, Kinds ts vs → f vs) → allC ts f := by
          intro ts
          induction ts with
          | nil => intro f hf; exact hf [] .nil
          | cons t ts ih => intro f hf x; exact ih _ fun vs hvs => hf _ (.cons x hvs)
        refine all _ _ fun vs hvs u1 h1 => ?_
        exact (unC_lamC hvs _).2 h1)
      refine wp_seq (Code.wp_mono ?_ (ihx _ _ _ s u h' bs a w hf))
      intro e a' w' hp
      obtain ⟨hne, s', u', bs', hq, hf', hs, hk, ha⟩ := hp
      have hkw : Kept wrt s s' := narrow_kept rfl hk
      cases e with
      | normal =>
        simp only at hq
        split at hq
        · rename_i vs hvs
          have hkinds := unC_kinds hq
          have hy := (unC_lamC hkinds _).1 hq
          have hfa := hf.anew hf' hs hk ha hvs
          refine Code.wp_mono ?_ (ihy _ _ _ _ u' hy bs a' w' hfa)
          intro e2 a2 w2 hp2
          exact Post.next hs.forget (narrow_kept rfl (anew_kept hk hvs)) (fun d hd => ha d (hdx d hd)) (hp2.mono hdy)
        · exact hq.elim
      | exit id => exact ⟨hne, s', u', bs', hq, hf', hs, hkw, fun d hd => ha d (hdx d hd)⟩
      | goto l => exact ⟨hne, s', u', bs', hq, hf', hs, hkw, fun d hd => ha d (hdx d hd)⟩
      | ret => exact ⟨hne, s', u', bs', hq, hf', hs, hkw, fun d hd => ha d (hdx d hd)⟩
      | panic c => exact absurd rfl (hne c)
      | outgrown => exact ⟨hne, s', u', bs', hq, hf', hs, hkw, fun d hd => ha d (hdx d hd)⟩
  | cond c x y ihx ihy =>
    intro p wrt Q s u h bs a w hf
    have hdx : ∀ d, memB (codeDsts (.cond c x y)) d = false → memB (codeDsts x) d = false := fun d h => by simp only [codeDsts, memB_append, Bool.or_eq_false_iff] at h; exact h.1
    have hdy : ∀ d, memB (codeDsts (.cond c x y)) d = false → memB (codeDsts y) d = false := fun d h => by simp only [codeDsts, memB_append, Bool.or_eq_false_iff] at h; exact h.2
    have hx : ∀ (st : St), a.eval c = .bool true → Fits st bs u a w → (st.loc = s.loc ∧ st.n = s.n) → WPc C ann x (2 * p) wrt Q st u → (Code.cond c x y).wp C.P (Post wrt s bs u a w (codeDsts (.cond c x y)) Q) a w := by
      intro st hc hfs hsn hw
      refine wp_cond_true hc (Code.wp_mono ?_ (ihx _ _ _ st u hw bs a w hfs))
      intro e a' w' hp
      exact Post.next (Step.refl hf.sub) ⟨hsn.2, by rw [hsn.1]; exact Nat.le_refl _, fun i cs e _ => by rw [hsn.1]; exact e⟩ (fun _ _ => rfl) (hp.mono hdx)
    have hy : ∀ (st : St), a.eval c = .bool false → Fits st bs u a w → (st.loc = s.loc ∧ st.n = s.n) → WPc C ann y (2 * p + 1) wrt Q st u → (Code.cond c x y).wp C.P (Post wrt s bs u a w (codeDsts (.cond c x y)) Q) a w := by
      intro st hc hfs hsn hw
      refine wp_cond_false hc (Code.wp_mono ?_ (ihy _ _ _ st u hw bs a w hfs))
      intro e a' w' hp
      exact Post.next (Step.refl hf.sub) ⟨hsn.2, by rw [hsn.1]; exact Nat.le_refl _, fun i cs e _ => by rw [hsn.1]; exact e⟩ (fun _ _ => rfl) (hp.mono hdy)
    have hsome : ∀ v, s.sv c = some v → ∀ t, c = .tmp t → (look s.env t).isSome = true := fun v hv t ht => by subst ht; simp only [St.sv] at hv; rw [hv]; rfl
    simp only [WPc] at h
    split at h
    · rename_i hc; exact hx s (Option.some.inj (hf.sv hc)).symm hf ⟨rfl, rfl⟩ h
    · rename_i hc; exact hy s (Option.some.inj (hf.sv hc)).symm hf ⟨rfl, rfl⟩ h
    · rename_i q d hc
      have hev := (Option.some.inj (hf.sv hc)).symm
      by_cases hq : q
      · have e1 : a.eval c = .bool true := by rw [hev]; simp [hq]
        obtain ⟨h1, h2⟩ := tell_fits (x := .tt) hf (by rw [e1]; rfl) (hsome _ hc)
        exact hx _ e1 h1 h2 (h.1 hq)
      · have e1 : a.eval c = .bool false := by rw [hev]; simp [hq]
        obtain ⟨h1, h2⟩ := tell_fits (x := .ff) hf (by rw [e1]; rfl) (hsome _ hc)
        exact hy _ e1 h1 h2 (h.2 hq)
    · rename_i q d hc
      have hev := (Option.some.inj (hf.sv hc)).symm
      by_cases hq : q
      · have e1 : a.eval c = .bool false := by rw [hev]; simp [hq]
        obtain ⟨h1, h2⟩ := tell_fits (x := .ff) hf (by rw [e1]; rfl) (hsome _ hc)
        exact hy _ e1 h1 h2 (h.2 hq)
      · have e1 : a.eval c = .bool true := by rw [hev]; simp [hq]
        obtain ⟨h1, h2⟩ := tell_fits (x := .tt) hf (by rw [e1]; rfl) (hsome _ hc)
        exact hx _ e1 h1 h2 (h.1 hq)
    · rename_i b hc
      have hev := (Option.some.inj (hf.sv hc)).symm
      cases b with
      | true =>
        obtain ⟨h1, h2⟩ := tell_fits (x := .tt) hf (by rw [hev]; rfl) (hsome _ hc)
        exact hx _ hev h1 h2 (h.1 rfl)
      | false =>
        obtain ⟨h1, h2⟩ := tell_fits (x := .ff) hf (by rw [hev]; rfl) (hsome _ hc)
        exact hy _ hev h1 h2 (h.2 rfl)
    · exact h.elim
  | block id b ih =>
    intro p wrt Q s u h bs a w hf
    simp only [WPc] at h
    refine wp_block (Code.wp_mono ?_ (ih _ _ _ s u h bs a w hf))
    intro e a' w' hp
    obtain ⟨hne, s', u', bs', hq, hf', hs, hk, ha⟩ := hp
    cases e with
    | exit j =>
      simp only at hq
      simp only [Exit.inBlock]
      split at hq
      · rename_i hj
        have := Nat.eq_of_beq_eq_true hj
        subst this
        rw [if_pos rfl]
        exact ⟨fun _ => Exit.noConfusion, s', u', bs', hq, hf', hs, hk, ha⟩
      · rename_i hj
        rw [if_neg (fun e => by subst e; rw [Nat.beq_refl] at hj; cases hj)]
        exact ⟨hne, s', u', bs', hq, hf', hs, hk, ha⟩
    | normal => exact ⟨hne, s', u', bs', hq, hf', hs, hk, ha⟩
    | goto l => exact ⟨hne, s', u', bs', hq, hf', hs, hk, ha⟩
    | ret => exact ⟨hne, s', u', bs', hq, hf', hs, hk, ha⟩
    | panic c => exact absurd rfl (hne c)
    | outgrown => exact ⟨hne, s', u', bs', hq, hf', hs, hk, ha⟩
  | scope b ih =>
    intro p wrt Q s u h bs a w hf
    simp only [WPc] at h
    refine wp_scope_straight (Code.wp_mono ?_ (ih _ _ _ s u h bs a w hf))
    intro e a' w' hp
    obtain ⟨hne, s', u', bs', hq, hf', hs, hk, ha⟩ := hp
    cases e with
    | goto l => exact hq.elim
    | exit j => exact ⟨hne, s', u', bs', hq, hf', hs, hk, ha⟩
    | normal => exact ⟨hne, s', u', bs', hq, hf', hs, hk, ha⟩
    | ret => exact ⟨hne, s', u', bs', hq, hf', hs, hk, ha⟩
    | panic c => exact absurd rfl (hne c)
    | outgrown => exact ⟨hne, s', u', bs', hq, hf', hs, hk, ha⟩
  | loop b ih =>
    intro p wrt Q s u h bs a w hf
    simp only [WPc] at h
    split at h
    · exact h.elim
    · rename_i an _
      split at h
      · exact h.elim
      · rename_i vs0 hvs0
        obtain ⟨I, μ, h0, hround⟩ := h
        let Inv : (List Value × H) → Act → World → Prop := fun g a' w' => Kinds an.tys g.1 ∧ (unC an.tys I g.1 fun r => r g.2) ∧ Fits (anew s (codeDsts b) an g.1) bs g.2 a' w' ∧ Step u bs w g.2 bs w' ∧
          (∀ d, memB (codeDsts b) d = false → a'.tmps[d]? = a.tmps[d]?) ∧ Kept (narrow wrt s.loc.length an.boxes) s (anew s (codeDsts b) an g.1)
        let m : (List Value × H) → Nat := fun g => (Classical.epsilon fun n => unC an.tys μ g.1 fun m => n = m g.2)
        have hm : ∀ g, Kinds an.tys g.1 → ∀ f : (H → Nat) → Prop, unC an.tys μ g.1 f → ∃ r, f r ∧ m g = r g.2 := by
          intro g hg f hfm
          obtain ⟨r, hr⟩ := unC_val μ hg
          refine ⟨r, (hr _).1 hfm, ?_⟩
          have := Classical.epsilon_spec (p := fun n => unC an.tys μ g.1 fun m => n = m g.2) ⟨r g.2, (hr _).2 rfl⟩
          exact (hr _).1 this
        have hk0 := unC_kinds h0
        have hkeep0 : Kept (narrow wrt s.loc.length an.boxes) s (anew s (codeDsts b) an vs0) := anew_kept (Kept.refl _ _) hvs0
        refine wp_loop_g Inv m ?_ (vs0, u) ⟨hk0, h0, hf.anew (wrt := wrt) hf (Step.refl hf.sub) (Kept.refl _ _) (fun _ _ => rfl) hvs0, Step.refl hf.sub, fun _ _ => rfl, hkeep0⟩
        rintro ⟨vs, u1⟩ a1 w1 ⟨hvk, hI, hf1, hs1, ha1, hkn⟩
        have hb := allC_of hround hvk u1 hI
        have hlen1 : (anew s (codeDsts b) an vs).loc.length = s.loc.length := by simp only [anew, setBoxes_len]
        refine Code.wp_mono ?_ (ih _ _ _ _ u1 hb bs a1 w1 hf1)
        intro e a' w' hp
        obtain ⟨hne, s', u', bs', hq, hf', hs', hk, ha⟩ := hp
        have hks : Kept (narrow wrt s.loc.length an.boxes) s s' := hkn.trans hk
        have hkw : Kept wrt s s' := narrow_kept rfl hks
        have hst := hs1.trans hs'
        have hfr : ∀ d, memB (codeDsts b) d = false → a'.tmps[d]? = a.tmps[d]? := fun d hd => (ha d hd).trans (ha1 d hd)
        cases e with
        | normal =>
          simp only at hq
          split at hq
          · rename_i vs' hvs'
            have hvk' := unC_kinds hq
            refine ⟨(vs', u'), ⟨hvk', unC_mono hq fun r hr => ?_, hf.anew hf' hst hks hfr hvs', hst.forget, hfr, anew_kept hks hvs'⟩, ?_⟩
            · obtain ⟨m1, h1, _⟩ := hm (vs', u') hvk' _ hr
              obtain ⟨m0, h2, _⟩ := hm (vs, u1) hvk _ h1
              exact h2.1
            · obtain ⟨r, hr⟩ := unC_val I hvk'
              obtain ⟨m1, h1, e1⟩ := hm (vs', u') hvk' _ ((hr _).1 hq)
              obtain ⟨m0, h2, e0⟩ := hm (vs, u1) hvk _ h1
              rw [e1, e0]; exact h2.2
          · exact hq.elim
        | exit id => exact ⟨hne, s', u', bs', hq, hf', hst, hkw, hfr⟩
        | goto l => exact ⟨hne, s', u', bs', hq, hf', hst, hkw, hfr⟩
        | ret => exact ⟨hne, s', u', bs', hq, hf', hst, hkw, hfr⟩
        | panic c => exact absurd rfl (hne c)
        | outgrown => exact ⟨hne, s', u', bs', hq, hf', hst, hkw, hfr⟩

/-! ### a function -/

/-- The results' cells, one behind the other. -/
def resVals (s : St) : List ResultVar → List Sh → Option (List Value)
  | [], [] => some []
  | .tmp d :: rs, .one _ :: ss => match (look s.env d).bind SV.val, resVals s rs ss with
    | some v, some vs => some (v :: vs)
    | _, _ => none
  | .cell d _ :: rs, sh :: ss => match look s.env d, resVals s rs ss with
    | some (.loc i off), some vs => match s.loc[i]? with
      | some cs => match Nat.ble (off + sh.cts.length) cs.length with
        | true => some ((cs.drop off).take sh.cts.length ++ vs)
        | false => none
      | none => none
    | _, _ => none
  | _, _ => none

/-- Do the results lie in slots and cells of these kinds? -/
def resOk (P : Program) : List ResultVar → List Sh → Bool
  | [], [] => true
  | .tmp _ :: rs, .one _ :: ss => resOk P rs ss
  | .cell _ t :: rs, sh :: ss => (match shOf P t, sh with
    | some (.one c), .one d => (match c, d with
      | .int k, .int k' => kEq k k'
      | .bool, .bool => true
      | .str, .str => true
      | .ptr, .ptr => true
      | .slice, .slice => true
      | .map, .map => true
      | .val, .val => true
      | _, _ => false)
    | some (.agg c), .agg d => Nat.beq c.length d.length
    | _, _ => false) && resOk P rs ss
  | _, _ => false

theorem encShs_one {t : CT} {ss : List Sh} {v : Value} {vs : List Value} : encShs (.one t :: ss) (v :: vs) = v :: encShs ss vs := rfl

theorem results_run {P : Program} {s : St} {bs : List Nat} {u : H} {a : Act} {w : World} (hf : Fits s bs u a w) : ∀ (rs : List ResultVar) (ss : List Sh) (vs : List Value), resVals s rs ss = some vs → resOk P rs ss = true →
    (rs.mapM (fun (r : ResultVar) => match r with
      | .tmp t => (pure (a.tmps.getD t undef) : Sem Value)
      | .cell x t => do loadVar t (← asAddr (a.tmps.getD x undef)))).run P w = Result.ok (encShs ss vs) w := by
  intro rs
  induction rs with
  | nil =>
    intro ss vs h ho
    cases ss with
    | nil => simp [resVals] at h; subst h; rfl
    | cons => simp [resVals] at h
  | cons r rs ih =>
    intro ss vs h ho
    cases r with
    | tmp d =>
      cases ss with
      | nil => simp [resVals] at h
      | cons sh ss =>
        cases sh with
        | agg => simp [resVals] at h
        | one t =>
          simp only [resVals] at h
          split at h
          · rename_i v vs' hv hvs
            cases h
            have ho' : resOk P rs ss = true := ho
            have h1 := ih ss vs' hvs ho'
            simp only [Option.bind_eq_some_iff] at hv
            obtain ⟨x, hx, hxv⟩ := hv
            obtain ⟨v', h2, h3⟩ := hf.env _ (look_mem hx)
            simp only at h2 h3
            rw [SV.val_conc hxv bs] at h2; cases h2
            have hg : a.tmps.getD d undef = v := by rw [Array.getD_eq_getD_getElem?, h3]; rfl
            simp only [List.mapM_cons, hg, pure_bind, Sem.run_bind, encShs_one]
            rw [h1]
            rfl
          · cases h
    | cell d t =>
      cases ss with
      | nil => simp [resVals] at h
      | cons sh ss =>
        have hr : resVals s (.cell d t :: rs) (sh :: ss) = some vs := h
        simp only [resVals] at hr
        split at hr
        · rename_i i off vs' hd hvs
          split at hr
          · rename_i cs hl
            split at hr
            · rename_i hb
              cases hr
              have hb := Nat.le_of_ble_eq_true hb
              have ho1 : resOk P (.cell d t :: rs) (sh :: ss) = true := ho
              simp only [resOk, Bool.and_eq_true] at ho1
              have h1 := ih ss vs' hvs ho1.2
              obtain ⟨v', h2, h3⟩ := hf.env _ (look_mem hd)
              simp only at h2 h3
              obtain ⟨b, T, hb1, hb2⟩ := hf.loc i cs hl
              simp only [conc, hb1, Option.some.injEq] at h2
              subst h2
              have hg : a.tmps.getD d undef = .pointer (some ⟨b, off, none⟩) := by rw [Array.getD_eq_getD_getElem?, h3]; rfl
              have hval : (loadVar t ⟨b, off, none⟩).run P w = .ok (sh.take ((cs.drop off).take sh.cts.length ++ vs')).1 w ∧ (sh.take ((cs.drop off).take sh.cts.length ++ vs')).2 = vs' := by
                have h4 := ho1.1
                cases hsh : shOf P t with
                | none => rw [hsh] at h4; simp at h4
                | some sh' =>
                  rw [hsh] at h4
                  have hlen : sh'.cts.length = sh.cts.length := by
                    cases sh' <;> cases sh <;> simp only [Sh.cts] at h4 ⊢ <;> first | rfl | (exact Nat.eq_of_beq_eq_true h4) | cases h4
                  have hload := loadBox_run (P := P) (off := off) hb2 sh'.cts.length 0 #[] (by rw [hlen]; simpa using hb)
                  have hlv := loadVar_run hsh ⟨b, off, none⟩ (vs := (cs.drop off).take sh'.cts.length) (by simp; rw [hlen]; omega) (by simpa using hload) (by
                    intro c hc
                    subst hc
                    have hl1 : sh.cts.length = 1 := by rw [← hlen]; rfl
                    have hlt : off < cs.length := by omega
                    simp only [Sh.cts, List.length_cons, List.length_nil] at hlen ⊢
                    refine ⟨cs[off], ?_, ?_⟩
                    · rw [List.drop_eq_getElem_cons hlt]; rfl
                    · simp only [World.cell?, hb2]; simp [hlt])
                  rw [hlen] at hlv
                  have hn : ((cs.drop off).take sh.cts.length).length = sh.cts.length := by simp; omega
                  rw [hlv]
                  cases sh' with
                  | one c' =>
                    cases sh with
                    | agg _ => simp at h4
                    | one c =>
                      simp only [Sh.cts, List.length_cons, List.length_nil] at hn ⊢
                      match hx : (cs.drop off).take 1, hn with
                      | [x], _ => exact ⟨rfl, rfl⟩
                  | agg c' =>
                    cases sh with
                    | one _ => simp at h4
                    | agg c =>
                      simp only [Sh.cts] at hn ⊢
                      refine ⟨?_, ?_⟩
                      · simp only [Sh.mk, Sh.take]
                        rw [List.take_append_of_le_length (by omega), List.take_of_length_le (l := List.take _ _) (by omega)]
                      · simp only [Sh.take]
                        rw [List.drop_append_of_le_length (by omega), List.drop_of_length_le (by omega)]
                        rfl
              have hz : asAddr (.pointer (some ⟨b, off, none⟩)) = pure ⟨b, off, none⟩ := rfl
              simp only [List.mapM_cons, hg, hz, pure_bind, Sem.run_bind, hval.1, Result.andThen_ok]
              rw [h1]
              simp only [encShs, hval.2]
              rfl
            · cases hr
          · cases hr
        · cases hr

/-- The block of deferred calls is shut at the end. -/
def endD (d : Option Nat) (u : H) (f : H → Prop) : Prop :=
  match d with
  | none => f u
  | some D => u D = some (.deferred (some [])) ∧ f (u.ins D (.deferred none))

/-- How a body must end. -/
def endW (rs : List ResultVar) (ss : List Sh) (K : Cur (ctsOf ss) (H → Prop)) : Exit → St → H → Prop
  | .normal, s, u => match resVals s rs ss with
    | some vs => endD s.dfs u fun u => unC (ctsOf ss) K vs fun r => r u
    | none => False
  | .ret, s, u => match resVals s rs ss with
    | some vs => endD s.dfs u fun u => unC (ctsOf ss) K vs fun r => r u
    | none => False
  | _, _, _ => False

def initEnv : Nat → List Value → List (Nat × SV)
  | _, [] => []
  | i, v :: vs => (i, .v v) :: initEnv (i + 1) vs

theorem initEnv_mem {vs : List Value} {i : Nat} {p : Nat × SV} (h : p ∈ initEnv i vs) : ∃ j v, vs[j]? = some v ∧ p = (i + j, .v v) := by
  induction vs generalizing i with
  | nil => cases h
  | cons v vs ih =>
    simp only [initEnv] at h
    cases h with
    | head => exact ⟨0, v, rfl, rfl⟩
    | tail _ h =>
      obtain ⟨j, v', h1, h2⟩ := ih h
      exact ⟨j + 1, v', h1, by rw [h2]; congr 1; omega⟩

/-- THE RULE: a function whose body's formula holds. -/
theorem fn_soundE {C : Cfg} (hG : Good C) {f : FuncId} {fn : Func} {c : Code} (hfn : C.P.funcs[f]? = some fn) (hb : fn.body = some c) (ann : List (Nat × Ann)) {args : List Value} {env : List (Nat × SV)}
    (henv : ∀ p ∈ env, ∃ v, args[p.1]? = some v ∧ conc [] p.2 = some v) {ss : List Sh} {u : H}
    {K : Cur (ctsOf ss) (H → Prop)} (hn : Nat.ble args.length fn.ntmps = true) (hr : resOk C.P fn.results.toList ss = true)
    (h : WPc C ann c 1 (fun _ => true) (endW fn.results.toList ss K) { n := fn.ntmps, env := env, loc := [] } u) : ClT C.P f args.toArray ss u K := by
  intro w hw
  refine callsIn_wide.1 (callsIn_of_wp_marks (F := Fence.wide) (n := 0) hfn hb trivial (wpIn_wide.2 ?_))
  have hle := Nat.le_of_ble_eq_true hn
  have hf : Fits { n := fn.ntmps, env := env, loc := [] } [] u { tmps := args.toArray ++ Array.replicate (fn.ntmps - args.toArray.size) undef, defers := [] } w := by
    refine ⟨⟨rfl, by simp; omega, ?_⟩, rfl, by simp, by simp, by simp, hw⟩
    intro p hp
    obtain ⟨v, h1, h2⟩ := henv p hp
    refine ⟨v, h2, ?_⟩
    have hlt : p.1 < args.length := by
      rcases Nat.lt_or_ge p.1 args.length with k | k
      · exact k
      · rw [List.getElem?_eq_none k] at h1; cases h1
    rw [Array.getElem?_append_left (by simpa using hlt)]
    simpa using h1
  have hs := code_sound hG ann c 1 _ _ _ u h [] _ w hf
  refine Code.wp_mono ?_ hs
  intro e a' w' hp
  obtain ⟨hne, s', u', bs', hq, hf', hst, _, _⟩ := hp
  have fin : ∀ vs, resVals s' fn.results.toList ss = some vs → (endD s'.dfs u' fun u' => unC (ctsOf ss) K vs fun r => r u') →
      LeavesInM Fence.wide 0 C.P fn a'.tmps (fun e w' => ∃ v1 u1, e = .returned v1 ∧ (∃ vs, Kinds (ctsOf ss) vs ∧ v1 = encRes ss vs ∧ unC (ctsOf ss) K vs fun r => r u1) ∧ Step u [] w u1 [] w') a'.defers .returning w' := by
    intro vs hv hK
    have hres : ∀ s2 u2 bs2 a2 w2, Fits s2 bs2 u2 a2 w2 → a2.tmps = a'.tmps → resVals s2 fn.results.toList ss = some vs → (results fn a'.tmps).run C.P w2 = .ok (encRes ss vs) w2 := by
      intro s2 u2 bs2 a2 w2 hf2 ht hv2
      have hrun := results_run (P := C.P) hf2 fn.results.toList ss vs hv2 hr
      rw [← ht]
      unfold results
      rw [Sem.run_bind]
      have e1 : (fn.results.mapM (fun (r : ResultVar) => match r with
          | .tmp t => (pure (a2.tmps.getD t undef) : Sem Value)
          | .cell x t => do loadVar t (← asAddr (a2.tmps.getD x undef)))).run C.P w2 = Result.ok (encShs ss vs).toArray w2 := by
        rw [Array.mapM_eq_mapM_toList, Sem.run_map, hrun]
        rfl
      refine (congrArg (fun r => Result.andThen r _) e1).trans ?_
      simp only [Result.andThen_ok]
      unfold encRes
      cases hx : encShs ss vs with
      | nil => rfl
      | cons v l =>
        cases l with
        | nil => rfl
        | cons v2 l => rfl
    rw [hf'.defers]
    unfold endD at hK
    split at hK
    · rename_i hd
      rw [hd]
      exact ⟨_, hres s' u' bs' a' w' hf' rfl hv, _, u', rfl, ⟨vs, unC_kinds hK, rfl, hK⟩, hst.forget⟩
    · rename_i D hd
      rw [hd]
      obtain ⟨hD, hK⟩ := hK
      have hDw := hf'.sub _ _ hD
      have htk := run_takeDeferred (P := C.P) hDw
      have hstep : Step u' bs' w' (u'.ins D (.deferred none)) bs' (w'.putObj D (.deferred none)) := by
        have hlt := hf'.sub.lt hD
        refine ⟨fun b x h => ?_, rfl, rfl, rfl, Nat.le_refl _, by simp, fun b _ hb _ => ?_, fun b _ hb => ?_, [], by simp, by simp⟩
        · unfold H.ins at h
          split at h
          · rename_i hbg; subst hbg; cases h; exact World.putObj_heap_same hlt
          · rename_i hbg; rw [World.putObj_heap_other hbg]; exact hf'.sub b x h
        · exact World.putObj_heap_other fun e => by rw [e, hD] at hb; cases hb
        · rw [H.ins_other _ _ fun e => by rw [e, hD] at hb; cases hb]; exact hb
      have hf2 : Fits s' bs' (u'.ins D (.deferred none)) a' (w'.putObj D (.deferred none)) := by
        refine ⟨hf'.toFitsE, hf'.len, fun i cs e => ?_, hf'.nodup, fun b hb => ?_, hstep.sub⟩
        · obtain ⟨b, T, h1, h2⟩ := hf'.loc i cs e
          exact ⟨b, T, h1, (World.putObj_heap_other fun e => by rw [e, hDw] at h2; cases h2).trans h2⟩
        · exact ⟨hstep.honest b (hf'.hid b hb).2 (hf'.hid b hb).1, by simpa using (hf'.hid b hb).2⟩
      refine ⟨by simp, .inl ⟨D, _, rfl, htk, ?_⟩⟩
      exact ⟨_, hres s' _ bs' a' _ hf2 rfl hv, _, _, rfl, ⟨vs, unC_kinds hK, rfl, hK⟩, (hst.trans hstep).forget⟩
  cases e with
  | normal =>
    simp only [endW] at hq
    split at hq
    · rename_i vs hv; exact fin vs hv hq
    · exact hq.elim
  | ret =>
    simp only [endW] at hq
    split at hq
    · rename_i vs hv; exact fin vs hv hq
    · exact hq.elim
  | exit id => exact hq.elim
  | goto l => exact hq.elim
  | panic c => exact absurd rfl (hne c)
  | outgrown => exact hq.elim

theorem fn_sound {C : Cfg} (hG : Good C) {f : FuncId} {fn : Func} {c : Code} (hfn : C.P.funcs[f]? = some fn) (hb : fn.body = some c) (ann : List (Nat × Ann)) {args : List Value} {ss : List Sh} {u : H}
    {K : Cur (ctsOf ss) (H → Prop)} (hn : Nat.ble args.length fn.ntmps = true) (hr : resOk C.P fn.results.toList ss = true)
    (h : WPc C ann c 1 (fun _ => true) (endW fn.results.toList ss K) { n := fn.ntmps, env := initEnv 0 args, loc := [] } u) : ClT C.P f args.toArray ss u K :=
  fn_soundE hG hfn hb ann (fun p hp => by
    obtain ⟨j, v, h1, rfl⟩ := initEnv_mem hp
    exact ⟨v, by simpa using h1, rfl⟩) hn hr h

/-- The slots at the start, behind np parameters what is captured: addresses. -/
def initEnvC (np : Nat) : Nat → List Value → List (Nat × SV)
  | _, [] => []
  | i, v :: vs => (i, match Nat.blt i np with
    | true => .v v
    | false => svOf .addr v) :: initEnvC np (i + 1) vs

theorem initEnvC_mem {np : Nat} {vs : List Value} {i : Nat} {p : Nat × SV} (h : p ∈ initEnvC np i vs) : ∃ j v, vs[j]? = some v ∧ p.1 = i + j ∧ conc [] p.2 = some v := by
  induction vs generalizing i with
  | nil => cases h
  | cons v vs ih =>
    simp only [initEnvC] at h
    cases h with
    | head =>
      refine ⟨0, v, rfl, rfl, ?_⟩
      cases Nat.blt i np with
      | true => rfl
      | false => exact svOf_conc _ _ _
    | tail _ h =>
      obtain ⟨j, v', h1, h2, h3⟩ := ih h
      exact ⟨j + 1, v', h1, by rw [h2]; omega, h3⟩

/-- A closure's: what it has captured lies behind its parameters. -/
theorem fn_soundC (np : Nat) {C : Cfg} {args : List Value} (hG : Good C) {f : FuncId} {fn : Func} (hfn : C.P.funcs[f]? = some fn) (hb : fn.body.isSome = true) (ann : List (Nat × Ann)) {ss : List Sh} {u : H}
    {K : Cur (ctsOf ss) (H → Prop)} (hn : Nat.ble args.length fn.ntmps = true) (hr : resOk C.P fn.results.toList ss = true)
    (h : WPc C ann (fn.body.getD .skip) 1 (fun _ => true) (endW fn.results.toList ss K) { n := fn.ntmps, env := initEnvC np 0 args, loc := [] } u) : ClT C.P f args.toArray ss u K := by
  cases hc : fn.body with
  | none => rw [hc] at hb; cases hb
  | some c =>
    rw [hc] at h
    exact fn_soundE hG hfn hc ann (fun p hp => by
      obtain ⟨j, v, h1, h2, h3⟩ := initEnvC_mem hp
      exact ⟨v, by rw [h2]; simpa using h1, h3⟩) hn hr h

/-- The same, the body named by its function. -/
theorem fn_sound' {C : Cfg} {args : List Value} (hG : Good C) {f : FuncId} {fn : Func} (hfn : C.P.funcs[f]? = some fn) (hb : fn.body.isSome = true) (ann : List (Nat × Ann)) {ss : List Sh} {u : H}
    {K : Cur (ctsOf ss) (H → Prop)} (hn : Nat.ble args.length fn.ntmps = true) (hr : resOk C.P fn.results.toList ss = true)
    (h : WPc C ann (fn.body.getD .skip) 1 (fun _ => true) (endW fn.results.toList ss K) { n := fn.ntmps, env := initEnv 0 args, loc := [] } u) : ClT C.P f args.toArray ss u K := by
  cases hc : fn.body with
  | none => rw [hc] at hb; cases hb
  | some c => rw [hc] at h; exact fn_sound hG hfn hc ann hn hr h

end
end Go.Proofs.YtgfafpiinencpaaGreat
