/- Texts of mine, joined by merge.py: VcCode, VcGood, VcFns, VcUser, VcSem, VcMem. -/
import Derived.Test.YtncninpdlpemgaaGreatMrb1
import Derived.Scope
import Derived.RangeFuncLeaves
import Derived.RangeFuncRecord
import Derived.Test.YtncninpdlpemgaaGreatProg
import Derived.Laws.StructEq
import Derived.ChangeKeysEq
import Derived.KernelRfl
import Derived.Laws.MathBits
import Derived.Laws.Externs
import Derived.IntWalk
import Derived.DataElems
import Derived.Laws.AppendOwn
import Derived.Laws.MakeOwn
import Derived.Laws.Slices
import Derived.Laws.CopyRow
import Derived.MapKept
import Derived.ChangeMaps5
import Derived.Carry
set_option maxRecDepth 100000

/- VcCode -/
namespace Go.Proofs.YtncninpdlpemgaaGreat

/-- Slots and boxes that are told anew where ways meet, or at a loop's head. -/
structure Ann where
  slots : List (Nat × CT)
  boxes : List (Nat × List CT)

def Ann.tys (a : Ann) : List CT := a.slots.map (·.2) ++ a.boxes.flatMap (·.2)

def annAt : List (Nat × Ann) → Nat → Option Ann
  | [], _ => none
  | (i, x) :: r, j => match Nat.beq i j with
    | true => some x
    | false => annAt r j

def codeDsts : Code → List Nat
  | .seq a b => codeDsts a ++ codeDsts b
  | .cond _ a b => codeDsts a ++ codeDsts b
  | .block _ b => codeDsts b
  | .loop b => codeDsts b
  | .scope b => codeDsts b
  | .region _ ops _ => ops.toList.filterMap fun o => o.dst
  | _ => []

def slotVals (s : St) : List (Nat × CT) → Option (List Value)
  | [] => some []
  | (d, _) :: r => match (look s.env d).bind SV.val, slotVals s r with
    | some v, some vs => some (v :: vs)
    | _, _ => none

def boxVals (s : St) : List (Nat × List CT) → Option (List Value)
  | [] => some []
  | (i, ts) :: r => match s.loc[i]?, boxVals s r with
    | some cs, some vs => match Nat.beq cs.length ts.length with
      | true => some (cs ++ vs)
      | false => none
    | _, _ => none

def valsAt (s : St) (an : Ann) : Option (List Value) :=
  match s.dfs with
  | none => match slotVals s an.slots, boxVals s an.boxes with
    | some a, some b => some (a ++ b)
    | _, _ => none
  | some _ => none

/-- Slots whose values are known. -/
def envVals : List (Nat × SV) → List (Nat × Value)
  | [] => []
  | (d, x) :: r => match x.val with
    | some v => (d, v) :: envVals r
    | none => envVals r

/-- The first range over a function in a body. -/
def rgOf : Code → Option Code
  | .rangeFunc g p x y => some (.rangeFunc g p x y)
  | .seq a b => match rgOf a with
    | some c => some c
    | none => rgOf b
  | .cond _ a b => match rgOf a with
    | some c => some c
    | none => rgOf b
  | .block _ b => rgOf b
  | .scope b => rgOf b
  | .loop b => rgOf b
  | _ => none
def rgCode (c : Code) : Code := (rgOf c).getD .skip

/-- A statement that the formula does not look into: it is left at its end, its temporaries as they were; D: its mark. -/
def RgS (P : Program) (c : Code) (n : Nat) (env : List (Nat × Value)) (u : H) (K : Nat → H → Prop) : Prop :=
  ∀ a w, a.tmps.size = n → (∀ p ∈ env, a.tmps[p.1]? = some p.2) → a.defers = [] → Sub u w →
    c.wp P (fun e a' w' => e = .normal ∧ a'.tmps = a.tmps ∧ ∃ D u', a'.defers = dfsOf (some D) ∧ K D u' ∧ Step u [] w u' [] w') a w

/-- A pointer that is told to lead somewhere. -/
def svOf : CT → Value → SV
  | .addr, .pointer (some p) => .ptr p
  | _, v => .v v

theorem svOf_conc (t : CT) (v : Value) (bs : List Nat) : conc bs (svOf t v) = some v := by
  unfold svOf
  split <;> rfl

def zipSlots : List (Nat × CT) → List Value → List (Nat × SV)
  | (d, t) :: r, v :: vs => (d, svOf t v) :: zipSlots r vs
  | _, _ => []

def setBoxes : List (List Value) → List (Nat × List CT) → List Value → List (List Value)
  | loc, [], _ => loc
  | loc, (i, ts) :: r, vs => setBoxes (setL loc i (vs.take ts.length)) r (vs.drop ts.length)

def keepEnv (ds : List Nat) : List (Nat × SV) → List (Nat × SV)
  | [] => []
  | (d, x) :: r => match memB ds d with
    | true => keepEnv ds r
    | false => (d, x) :: keepEnv ds r

/-- The state told anew. -/
def anew (s : St) (ds : List Nat) (an : Ann) (vs : List Value) : St :=
  { n := s.n, env := zipSlots an.slots vs ++ keepEnv ds s.env, loc := setBoxes s.loc an.boxes (vs.drop an.slots.length) }

def narrow (wrt : Nat → Bool) (cnt : Nat) (bx : List (Nat × List CT)) (i : Nat) : Bool :=
  match Nat.blt i cnt with
  | true => memB (bx.map (·.1)) i && wrt i
  | false => true

def tellC (s : St) (c : Operand) (x : SV) : St :=
  match c with
  | .tmp t => s.put (some t) x
  | _ => s

def WPc (C : Cfg) (ann : List (Nat × Ann)) : Code → Nat → (Nat → Bool) → (Exit → St → H → Prop) → St → H → Prop
  | .skip, _, _, Q, s, u => Q .normal s u
  | .label _, _, _, Q, s, u => Q .normal s u
  | .ret, _, _, Q, s, u => Q .ret s u
  | .exit id, _, _, Q, s, u => Q (.exit id) s u
  | .seq x y, p, wrt, Q, s, u => match annAt ann p with
    | none => WPc C ann x (2 * p) wrt (fun e s' u' => match e with
      | .normal => WPc C ann y (2 * p + 1) wrt Q s' u'
      | e => Q e s' u') s u
    | some an => ∀ K : Cur an.tys (H → Prop),
        allC an.tys (fun vs => ∀ u1, WPc C ann y (2 * p + 1) wrt Q (anew s (codeDsts x) an vs) u1 → unC an.tys K vs fun r => r u1) →
        WPc C ann x (2 * p) (narrow wrt s.loc.length an.boxes) (fun e s' u' => match e with
          | .normal => match valsAt s' an with
            | some vs => unC an.tys K vs fun r => r u'
            | none => False
          | e => Q e s' u') s u
  | .cond c x y, p, wrt, Q, s, u => match s.sv c with
    | some .tt => WPc C ann x (2 * p) wrt Q s u
    | some .ff => WPc C ann y (2 * p + 1) wrt Q s u
    | some (.dec q _) => (q → WPc C ann x (2 * p) wrt Q (tellC s c .tt) u) ∧ (¬ q → WPc C ann y (2 * p + 1) wrt Q (tellC s c .ff) u)
    | some (.ndec q _) => (¬ q → WPc C ann x (2 * p) wrt Q (tellC s c .tt) u) ∧ (q → WPc C ann y (2 * p + 1) wrt Q (tellC s c .ff) u)
    | some (.v (.bool b)) => (b = true → WPc C ann x (2 * p) wrt Q (tellC s c .tt) u) ∧ (b = false → WPc C ann y (2 * p + 1) wrt Q (tellC s c .ff) u)
    | _ => False
  | .block id b, p, wrt, Q, s, u => WPc C ann b (2 * p) wrt (fun e s' u' => match e with
    | .exit j => match Nat.beq j id with
      | true => Q .normal s' u'
      | false => Q (.exit j) s' u'
    | e => Q e s' u') s u
  | .scope b, p, wrt, Q, s, u => WPc C ann b (2 * p) wrt (fun e s' u' => match e with
    | .goto _ => False
    | e => Q e s' u') s u
  | .loop b, p, wrt, Q, s, u => match annAt ann p with
    | none => False
    | some an => match valsAt s an with
      | none => False
      | some vs0 => ∃ I : Cur an.tys (H → Prop), ∃ μ : Cur an.tys (H → Nat), (unC an.tys I vs0 fun r => r u) ∧
          allC an.tys fun vs => ∀ u1, (unC an.tys I vs fun r => r u1) →
            WPc C ann b (2 * p) (narrow wrt s.loc.length an.boxes) (fun e s' u' => match e with
              | .normal => match valsAt s' an with
                | some vs' => unC an.tys I vs' fun r => unC an.tys μ vs' fun m => unC an.tys μ vs fun m0 => r u' ∧ m u' < m0 u1
                | none => False
              | e => Q e s' u') (anew s (codeDsts b) an vs) u1
  | .region _ ops false, _, wrt, Q, s, u => seqW C wrt ops ops.toList s u (Q .normal)
  | .rangeFunc g ps x y, _, _, Q, s, u => match s.dfs with
    | none => RgS C.P (.rangeFunc g ps x y) s.n (envVals s.env) u fun D u' => Q .normal { s with dfs := some D } u'
    | some _ => False
  | .region _ ops true, _, wrt, Q, s, u => match Region.noSelect ops with
    | true => match C.part with
      | false => drawW C wrt ops u (ops.size + 1) (Array.replicate ops.size false) true s u (Q .normal)
      | true => ∃ v0 : H, v0.le u ∧ drawP C wrt ops v0 u (ops.size + 1) (Array.replicate ops.size false) true s u (Q .normal)
    | false => False
  | _, _, _, _, _, _ => False

section
variable {C : Cfg} {wrt : Nat → Bool} {s : St} {u : H} {bs : List Nat} {a : Act} {w : World}

def Post (wrt : Nat → Bool) (s : St) (bs : List Nat) (u : H) (a : Act) (w : World) (ds : List Nat) (Q : Exit → St → H → Prop) (e : Exit) (a' : Act) (w' : World) : Prop :=
  (∀ c, e ≠ .panic c) ∧ ∃ s' u' bs', Q e s' u' ∧ Fits s' bs' u' a' w' ∧ Step u bs w u' bs' w' ∧ Kept wrt s s' ∧ ∀ d, memB ds d = false → a'.tmps[d]? = a.tmps[d]?

theorem memB_append (a b : List Nat) (d : Nat) : memB (a ++ b) d = (memB a d || memB b d) := by simp [memB]

theorem Post.mono {ds ds' : List Nat} {Q : Exit → St → H → Prop} {e : Exit} {a' : Act} {w' : World} (h : Post wrt s bs u a w ds Q e a' w') (hd : ∀ d, memB ds' d = false → memB ds d = false) :
    Post wrt s bs u a w ds' Q e a' w' := by
  obtain ⟨h1, s', u', bs', h2, h3, h4, h5, h6⟩ := h
  exact ⟨h1, s', u', bs', h2, h3, h4, h5, fun d h => h6 d (hd d h)⟩

theorem Post.next {s1 : St} {u1 : H} {bs1 : List Nat} {a1 : Act} {w1 : World} {ds : List Nat} {Q : Exit → St → H → Prop} {e : Exit} {a' : Act} {w' : World} (hs : Step u bs w u1 bs1 w1) (hk : Kept wrt s s1)
    (ha : ∀ d, memB ds d = false → a1.tmps[d]? = a.tmps[d]?) (h : Post wrt s1 bs1 u1 a1 w1 ds Q e a' w') : Post wrt s bs u a w ds Q e a' w' := by
  obtain ⟨h1, s', u', bs', h2, h3, h4, h5, h6⟩ := h
  exact ⟨h1, s', u', bs', h2, h3, hs.trans h4, hk.trans h5, fun d h => (h6 d h).trans (ha d h)⟩

/-- Blocks of one's own that are let go. -/
theorem Step.forget {u u' : H} {bs bs' : List Nat} {w w' : World} (h : Step u bs w u' bs' w') : Step u bs w u' bs w' :=
  ⟨h.sub, h.os, h.tape, h.output, h.drawn, h.size, h.rest, h.honest, [], by simp, by simp⟩

theorem slotVals_len {l : List (Nat × CT)} {vs : List Value} (h : slotVals s l = some vs) : vs.length = l.length := by
  induction l generalizing vs with
  | nil => simp [slotVals] at h; subst h; rfl
  | cons p r ih =>
    simp only [slotVals] at h
    split at h
    · rename_i v vs' hv hvs; cases h; simp [ih hvs]
    · cases h

theorem zipSlots_app {l : List (Nat × CT)} {vs ws : List Value} (h : vs.length = l.length) : zipSlots l (vs ++ ws) = zipSlots l vs := by
  induction l generalizing vs with
  | nil =>
    cases vs with
    | nil => cases ws <;> rfl
    | cons => simp at h
  | cons p r ih =>
    cases vs with
    | nil => simp at h
    | cons v vs => simp only [List.cons_append, zipSlots]; rw [ih (by simpa using h)]

theorem zipSlots_env {bs' : List Nat} {l : List (Nat × CT)} {vs : List Value} (hf : FitsE s bs a) (h : slotVals s l = some vs) :
    ∀ p ∈ zipSlots l vs, ∃ v, conc bs' p.2 = some v ∧ a.tmps[p.1]? = some v := by
  induction l generalizing vs with
  | nil => intro p hp; simp [zipSlots] at hp
  | cons q r ih =>
    simp only [slotVals] at h
    split at h
    · rename_i v vs' hv hvs
      cases h
      intro p hp
      simp only [zipSlots] at hp
      cases hp with
      | head =>
        simp only [Option.bind_eq_some_iff] at hv
        obtain ⟨x, hx, hxv⟩ := hv
        obtain ⟨v', h1, h2⟩ := hf.env _ (look_mem hx)
        simp only at h1 h2
        rw [SV.val_conc hxv bs] at h1
        cases h1
        exact ⟨v, svOf_conc _ _ _, h2⟩
      | tail _ hp => exact ih hvs p hp
    · cases h

theorem keepEnv_mem {ds : List Nat} {l : List (Nat × SV)} {p : Nat × SV} (h : p ∈ keepEnv ds l) : p ∈ l ∧ memB ds p.1 = false := by
  induction l with
  | nil => cases h
  | cons q r ih =>
    obtain ⟨d, x⟩ := q
    simp only [keepEnv] at h
    split at h
    · exact ⟨.tail _ (ih h).1, (ih h).2⟩
    · rename_i e
      cases h with
      | head => exact ⟨.head _, e⟩
      | tail _ h => exact ⟨.tail _ (ih h).1, (ih h).2⟩

theorem setBoxes_len : ∀ (bx : List (Nat × List CT)) (loc : List (List Value)) (vs : List Value), (setBoxes loc bx vs).length = loc.length := by
  intro bx
  induction bx with
  | nil => intro loc vs; rfl
  | cons p r ih => intro loc vs; simp only [setBoxes]; rw [ih, setL_len]

/-- Each box told anew holds what it holds; the others are as they were. -/
theorem setBoxes_spec {s' : St} {cnt : Nat} (_hcnt : cnt ≤ s'.loc.length) : ∀ (bx : List (Nat × List CT)) (loc : List (List Value)) (vs : List Value), boxVals s' bx = some vs → loc.length = cnt →
    (∀ (i : Nat) (cs : List Value), loc[i]? = some cs → memB (bx.map (·.1)) i = false → s'.loc[i]? = some cs) → ∀ (i : Nat) (cs : List Value), (setBoxes loc bx vs)[i]? = some cs → s'.loc[i]? = some cs := by
  intro bx
  induction bx with
  | nil => intro loc vs _ _ h i cs e; exact h i cs e rfl
  | cons p r ih =>
    obtain ⟨j, ts⟩ := p
    intro loc vs h hl hk i cs e
    simp only [boxVals] at h
    split at h
    · rename_i cs' vs' hj hvs
      split at h
      · rename_i hlen
        cases h
        have hlen' := Nat.eq_of_beq_eq_true hlen
        simp only [setBoxes] at e
        rw [← hlen', List.take_left, List.drop_left] at e
        refine ih (setL loc j cs') vs' hvs (by rw [setL_len]; exact hl) ?_ i cs e
        intro i' cs2 e2 hm
        rw [setL_get] at e2
        split at e2
        · rename_i hji
          cases e2
          rw [← hji.1]; exact hj
        · rename_i hji
          refine hk i' cs2 e2 ?_
          simp only [List.map_cons, memB, List.any_cons, Bool.or_eq_false_iff]
          refine ⟨?_, hm⟩
          cases hb : Nat.beq i' j with
          | false => rfl
          | true =>
            have := Nat.eq_of_beq_eq_true hb
            subst this
            have hlt : i' < loc.length := by
              rcases Nat.lt_or_ge i' loc.length with k | k
              · exact k
              · rw [List.getElem?_eq_none k] at e2; cases e2
            exact absurd ⟨rfl, hlt⟩ hji
      · cases h
    · cases h

/-- The state told anew fits where the state that was come to fits. -/
theorem Fits.anew {s' : St} {u' : H} {bs' : List Nat} {a' : Act} {w' : World} {ds : List Nat} {an : Ann} {vs : List Value} (hf : Fits s bs u a w) (hf' : Fits s' bs' u' a' w') (hs : Step u bs w u' bs' w')
    (hk : Kept (narrow wrt s.loc.length an.boxes) s s') (ha : ∀ d, memB ds d = false → a'.tmps[d]? = a.tmps[d]?) (hv : valsAt s' an = some vs) :
    Fits (anew s ds an vs) bs u' a' w' := by
  unfold valsAt at hv
  split at hv
  rotate_left
  · cases hv
  rename_i hdn
  split at hv
  · rename_i va vb hva hvb
    cases hv
    have hla := slotVals_len hva
    obtain ⟨ext, hext, _⟩ := hs.more
    have hz : zipSlots an.slots (va ++ vb) = zipSlots an.slots va := zipSlots_app hla
    have hd : (va ++ vb).drop an.slots.length = vb := by rw [← hla, List.drop_left]
    refine ⟨⟨by rw [hf'.defers, hdn]; rfl, by rw [hf'.n, hk.n]; rfl, ?_⟩, ?_, ?_, hf.nodup, ?_, hf'.sub⟩
    · intro p hp
      simp only [Go.Proofs.YtncninpdlpemgaaGreat.anew, hz] at hp
      rcases List.mem_append.1 hp with hp | hp
      · exact zipSlots_env hf'.toFitsE hva p hp
      · obtain ⟨h1, h2⟩ := keepEnv_mem hp
        obtain ⟨v, h3, h4⟩ := hf.env p h1
        exact ⟨v, h3, (ha p.1 h2).trans h4⟩
    · simp only [Go.Proofs.YtncninpdlpemgaaGreat.anew, setBoxes_len]; exact hf.len
    · intro i cs e
      simp only [Go.Proofs.YtncninpdlpemgaaGreat.anew, hd] at e
      have hlt : i < s.loc.length := by
        rcases Nat.lt_or_ge i s.loc.length with k | k
        · exact k
        · rw [List.getElem?_eq_none (by rw [setBoxes_len]; exact k)] at e; cases e
      have h1 := setBoxes_spec hk.len an.boxes s.loc vb hvb rfl (fun j cs2 e2 hm => by
        refine hk.same j cs2 e2 ?_
        have hjlt : j < s.loc.length := by
          rcases Nat.lt_or_ge j s.loc.length with k | k
          · exact k
          · rw [List.getElem?_eq_none k] at e2; cases e2
        unfold narrow
        have : Nat.blt j s.loc.length = true := by simpa using hjlt
        rw [this]
        simp [hm]) i cs e
      obtain ⟨b, T, h2, h3⟩ := hf'.loc i cs h1
      refine ⟨b, T, ?_, h3⟩
      rw [hext, List.getElem?_append_left (by rw [hf.len]; exact hlt)] at h2
      exact h2
    · intro b hb
      exact hf'.hid b (by rw [hext]; exact List.mem_append_left _ hb)
  · cases hv

theorem anew_kept {ds : List Nat} {an : Ann} {vs : List Value} {s' : St} (hk : Kept (narrow wrt s.loc.length an.boxes) s s') (hv : valsAt s' an = some vs) :
    Kept (narrow wrt s.loc.length an.boxes) s (anew s ds an vs) := by
  unfold valsAt at hv
  split at hv
  rotate_left
  · cases hv
  rename_i hdn
  split at hv
  · rename_i va vb hva hvb
    cases hv
    have hla := slotVals_len hva
    have hd : (va ++ vb).drop an.slots.length = vb := by rw [← hla, List.drop_left]
    refine ⟨rfl, by simp only [anew, setBoxes_len]; exact Nat.le_refl _, fun i cs e hw => ?_⟩
    simp only [anew, hd]
    have hlt : i < s.loc.length := by
      rcases Nat.lt_or_ge i s.loc.length with k | k
      · exact k
      · rw [List.getElem?_eq_none k] at e; cases e
    have h1 := setBoxes_spec hk.len an.boxes s.loc vb hvb rfl (fun j cs2 e2 hm => by
        refine hk.same j cs2 e2 ?_
        have hjlt : j < s.loc.length := by
          rcases Nat.lt_or_ge j s.loc.length with k | k
          · exact k
          · rw [List.getElem?_eq_none k] at e2; cases e2
        unfold narrow
        have : Nat.blt j s.loc.length = true := by simpa using hjlt
        rw [this]
        simp [hm]) i
    have h2 := hk.same i cs e hw
    cases h3 : (setBoxes s.loc an.boxes vb)[i]? with
    | none =>
      have : i < (setBoxes s.loc an.boxes vb).length := by rw [setBoxes_len]; exact hlt
      rw [List.getElem?_eq_getElem this] at h3; cases h3
    | some x =>
      have h4 := h1 _ h3
      rw [h2] at h4
      exact h4.symm
  · cases hv

theorem narrow_kept {cnt : Nat} {bx : List (Nat × List CT)} {s1 s2 : St} (hc : s1.loc.length = cnt) (k : Kept (narrow wrt cnt bx) s1 s2) : Kept wrt s1 s2 := by
  refine ⟨k.n, k.len, fun i cs e hw => k.same i cs e ?_⟩
  have hlt : i < cnt := by
    rw [← hc]
    rcases Nat.lt_or_ge i s1.loc.length with h | h
    · exact h
    · rw [List.getElem?_eq_none h] at e; cases e
  unfold narrow
  have : Nat.blt i cnt = true := by simpa using hlt
  rw [this]
  simp [hw]

/-- A loop whose invariant bears a ghost. -/
theorem wp_loop_g {P : Program} {c : Code} {Q : Exit → Act → World → Prop} {G : Type} (I : G → Act → World → Prop) (μ : G → Nat)
    (round : ∀ g a w, I g a w → c.wp P (Exit.then (fun a' w' => ∃ g', I g' a' w' ∧ μ g' < μ g) Q) a w) {a : Act} {w : World} (g : G) (h : I g a w) : (Code.loop c).wp P Q a w := by
  intro b k cs
  have key : ∀ n g a w, μ g = n → I g a w →
      ∃ e a' w', Q e a' w' ∧ Arrives P (lone (b.at a (.code c :: .inLoop c :: k)) cs w) b k cs e a' w' := by
    intro n
    induction n using Nat.strongRecOn with
    | _ n ih =>
      intro g a w hn hI
      obtain ⟨e, a₁, w₁, hq, harr⟩ := round g a w hI b (.inLoop c :: k) cs
      cases e with
      | normal =>
        obtain ⟨g₁, hI₁, hlt⟩ := hq
        obtain ⟨e₂, a₂, w₂, hq₂, harr₂⟩ := ih (μ g₁) (hn ▸ hlt) g₁ a₁ w₁ rfl hI₁
        exact ⟨e₂, a₂, w₂, hq₂, .of_steps (Steps.trans harr (.one step_inLoop)) harr₂⟩
      | exit id => exact ⟨_, a₁, w₁, hq, .pass (x := .inLoop c) rfl (fun _ _ => .inl (by simp)) harr⟩
      | goto l => exact ⟨_, a₁, w₁, hq, .pass (x := .inLoop c) rfl (fun _ _ => .inl (by simp)) harr⟩
      | ret => exact ⟨_, a₁, w₁, hq, .pass (x := .inLoop c) rfl (fun _ _ => .inl (by simp)) harr⟩
      | panic ch => exact ⟨_, a₁, w₁, hq, .pass (x := .inLoop c) rfl (fun _ _ => .inl (by simp)) harr⟩
      | outgrown => exact ⟨_, a₁, w₁, hq, .pass (x := .inLoop c) rfl (fun _ _ => .inl (by simp)) harr⟩
  obtain ⟨e, a', w', hq, harr⟩ := key _ g a w rfl h
  exact ⟨e, a', w', hq, .of_steps (.one step_loop) harr⟩

theorem unC_mono {R : Type} {ts : List CT} {I : Cur ts R} {vs : List Value} {f g : R → Prop} (h : unC ts I vs f) (hfg : ∀ r, f r → g r) : unC ts I vs g := by
  obtain ⟨r, hr⟩ := unC_val I (unC_kinds h)
  exact (hr _).2 (hfg _ ((hr _).1 h))

theorem dst_mem {id : Nat} {ops : Array Oper} {dr : Bool} {o : Oper} (ho : o ∈ ops.toList) {d : Nat} (hd : o.dst = some d) : memB (codeDsts (.region id ops dr)) d = true := by
  simp only [codeDsts, memB, List.any_eq_true]
  exact ⟨d, List.mem_filterMap.2 ⟨o, ho, hd⟩, Nat.beq_refl d⟩

theorem tell_fits {c : Operand} {x : SV} (hf : Fits s bs u a w) (hx : conc bs x = some (a.eval c)) (hn : ∀ t, c = .tmp t → (look s.env t).isSome = true) : Fits (tellC s c x) bs u a w ∧ (tellC s c x).loc = s.loc ∧ (tellC s c x).n = s.n := by
  cases c with
  | tmp t =>
    obtain ⟨y, hy⟩ := Option.isSome_iff_exists.1 (hn t rfl)
    obtain ⟨v, h1, h2⟩ := hf.env _ (look_mem hy)
    simp only at h1 h2
    have hev : a.eval (.tmp t) = v := by simp only [Act.eval]; rw [Array.getD_eq_getD_getElem?, h2]; rfl
    rw [hev] at hx
    have he := hf.toFitsE.tell (d := t) hx h2
    exact ⟨hf.told ⟨he, (put_loc _ _ _).1, (put_loc _ _ _).2⟩, (put_loc _ _ _).1, (put_loc _ _ _).2⟩
  | const v => exact ⟨hf, rfl, rfl⟩
  | global g => exact ⟨hf, rfl, rfl⟩
  | func f => exact ⟨hf, rfl, rfl⟩

theorem envVals_spec {s : St} {bs : List Nat} {a : Act} (hf : FitsE s bs a) : ∀ p ∈ envVals s.env, a.tmps[p.1]? = some p.2 := by
  have key : ∀ l : List (Nat × SV), (∀ p ∈ l, p ∈ s.env) → ∀ p ∈ envVals l, a.tmps[p.1]? = some p.2 := by
    intro l
    induction l with
    | nil => intro _ p hp; cases hp
    | cons q r ih =>
      obtain ⟨d, x⟩ := q
      intro hl p hp
      simp only [envVals] at hp
      split at hp
      · rename_i v hv
        cases hp with
        | head =>
          obtain ⟨v', h1, h2⟩ := hf.env _ (hl _ (.head _))
          simp only at h1 h2
          rw [SV.val_conc hv bs] at h1
          cases h1; exact h2
        | tail _ hp => exact ih (fun p hp => hl p (.tail _ hp)) p hp
      · exact ih (fun p hp => hl p (.tail _ hp)) p hp
  exact key s.env fun _ h => h

set_option maxHeartbeats 1000000 in
theorem code_sound (hG : Good C) (ann : List (Nat × Ann)) : ∀ (c : Code) (p : Nat) (wrt : Nat → Bool) (Q : Exit → St → H → Prop) (s : St) (u : H), WPc C ann c p wrt Q s u →
    ∀ (bs : List Nat) (a : Act) (w : World), Fits s bs u a w → c.wp C.P (Post wrt s bs u a w (codeDsts c) Q) a w := by
  intro c
  have base : ∀ (e : Exit), (∀ c, e ≠ .panic c) → ∀ (ds : List Nat) (wrt : Nat → Bool) (Q : Exit → St → H → Prop) (s : St) (u : H) (bs : List Nat) (a : Act) (w : World), Q e s u → Fits s bs u a w →
      Post wrt s bs u a w ds Q e a w := fun e he ds wrt Q s u bs a w h hf => ⟨he, s, u, bs, h, hf, Step.refl hf.sub, Kept.refl _ _, fun _ _ => rfl⟩
  induction c with
  | skip => intro p wrt Q s u h bs a w hf; exact wp_skip (base _ (fun _ => Exit.noConfusion) _ _ _ _ _ _ _ _ h hf)
  | label l => intro p wrt Q s u h bs a w hf; exact wp_label (base _ (fun _ => Exit.noConfusion) _ _ _ _ _ _ _ _ h hf)
  | ret => intro p wrt Q s u h bs a w hf; exact wp_ret (base _ (fun _ => Exit.noConfusion) _ _ _ _ _ _ _ _ h hf)
  | exit id => intro p wrt Q s u h bs a w hf; exact wp_exit (base _ (fun _ => Exit.noConfusion) _ _ _ _ _ _ _ _ h hf)
  | goto l => intro p wrt Q s u h; exact h.elim
  | refuse r => intro p wrt Q s u h; exact h.elim
  | rangeFunc f ps x y =>
    intro p wrt Q s u h bs a w hf
    simp only [WPc] at h
    split at h
    · rename_i hd
      have hda : a.defers = [] := by rw [hf.defers, hd]; rfl
      refine Code.wp_mono ?_ (h a w hf.n (envVals_spec hf.toFitsE) hda hf.sub)
      rintro e a' w' ⟨rfl, ht, D, u', hd', hK, hs⟩
      refine ⟨fun _ => Exit.noConfusion, _, u', bs, hK, ?_, hs.hide bs, ⟨rfl, Nat.le_refl _, fun _ _ h _ => h⟩, fun _ _ => by rw [ht]⟩
      have hf2 := hf.step hs
      exact ⟨⟨hd', by rw [ht]; exact hf2.n, fun q hq => by rw [ht]; exact hf2.env q hq⟩, hf2.len, hf2.loc, hf2.nodup, hf2.hid, hf2.sub⟩
    · exact h.elim
  | region id ops dr =>
    intro p wrt Q s u h bs a w hf
    cases dr with
    | false =>
      simp only [WPc] at h
      refine wpIn_wide.1 (wpIn_region_list (seq_soundIn hG none (ds := memB (codeDsts (.region id ops false))) ops.toList s u bs a w h hf (.inl rfl) (fun o ho d hd => dst_mem ho hd) ?_))
      intro s' u' bs' a' w' hk hf' hs hkp ha
      exact ⟨fun _ => Exit.noConfusion, s', u', bs', hk, hf', hs, hkp, ha⟩
    | true =>
      simp only [WPc] at h
      split at h
      · rename_i hsel
        have hfd : Fits s bs u a { w with drawn := w.drawn + 1 } := ⟨hf.toFitsE, hf.len, hf.loc, hf.nodup, hf.hid, hf.sub⟩
        have hcl : Closed ops (Array.replicate ops.size false) := by
          intro j o _ hj
          have : (Array.replicate ops.size false).getD j false = false := by
            rw [Array.getD_eq_getD_getElem?, Array.getElem?_replicate]; split <;> rfl
          rw [this] at hj; cases hj
        have hco : Cont wrt s bs u a { w with drawn := w.drawn + 1 } (memB (codeDsts (.region id ops true))) (Q .normal) (Post wrt s bs u a w (codeDsts (.region id ops true)) Q .normal) := by
          intro s' u' bs' a' w' hk hf' hs hkp ha
          exact ⟨fun _ => Exit.noConfusion, s', u', bs', hk, hf', (Step.draws hf.sub (Nat.le_succ _)).trans hs, hkp, ha⟩
        split at h
        · refine wp_region_any hG.mixed (wpAny_of_G (nd := ndOf ops) (S := FitsW s.loc bs u) _ _ _ _ ?_)
          exact draw_sound hG (ds := memB (codeDsts (.region id ops true))) (loc0 := s.loc) (bs0 := bs) hsel (fun c a w hp => hp.1 c rfl) (fun o ho d hd => dst_mem ho hd) _ _ _ s u h bs a _ _ hfd hcl (by unfold left; simp) (fun _ => ⟨H.le.refl u, rfl, rfl⟩) ⟨[], by simp⟩ hco
        · obtain ⟨v0, hle0, h⟩ := h
          refine wp_region_any hG.mixed (wpAny_of_R (R := RelP ops s.loc bs v0 u) _ _ _ _ ?_)
          exact drawP_sound hG (ds := memB (codeDsts (.region id ops true))) (loc0 := s.loc) (bs0 := bs) hle0 hsel (fun c a w hp => hp.1 c rfl) (fun o ho d hd => dst_mem ho hd) _ _ _ s u h bs a _ _ hfd hcl (by unfold left; simp) (fun _ => ⟨H.le.refl u, rfl, rfl⟩) ⟨[], by simp⟩ hco
      · exact h.elim
  | seq x y ihx ihy =>
    intro p wrt Q s u h bs a w hf
    have hdx : ∀ d, memB (codeDsts (.seq x y)) d = false → memB (codeDsts x) d = false := fun d h => by simp only [codeDsts, memB_append, Bool.or_eq_false_iff] at h; exact h.1
    have hdy : ∀ d, memB (codeDsts (.seq x y)) d = false → memB (codeDsts y) d = false := fun d h => by simp only [codeDsts, memB_append, Bool.or_eq_false_iff] at h; exact h.2
    simp only [WPc] at h
    split at h
    · refine wp_seq (Code.wp_mono ?_ (ihx _ _ _ s u h bs a w hf))
      intro e a' w' hp
      obtain ⟨hne, s', u', bs', hq, hf', hs, hk, ha⟩ := hp
      cases e with
      | normal =>
        refine Code.wp_mono ?_ (ihy _ _ _ s' u' hq bs' a' w' hf')
        intro e2 a2 w2 hp2
        exact Post.next hs hk (fun d hd => ha d (hdx d hd)) (hp2.mono hdy)
      | exit id => exact ⟨hne, s', u', bs', hq, hf', hs, hk, fun d hd => ha d (hdx d hd)⟩
      | goto l => exact ⟨hne, s', u', bs', hq, hf', hs, hk, fun d hd => ha d (hdx d hd)⟩
      | ret => exact ⟨hne, s', u', bs', hq, hf', hs, hk, fun d hd => ha d (hdx d hd)⟩
      | panic c => exact absurd rfl (hne c)
      | outgrown => exact ⟨hne, s', u', bs', hq, hf', hs, hk, fun d hd => ha d (hdx d hd)⟩
    · rename_i an _
      have h' := h (lamC an.tys fun vs u1 => WPc C ann y (2 * p + 1) wrt Q (anew s (codeDsts x) an vs) u1) (by
        have all : ∀ (ts : List CT) (f : List Value → Prop), (∀ vs, Kinds ts vs → f vs) → allC ts f := by
          intro ts
          induction ts with
          | nil => intro f hf; exact hf [] .nil
          | cons t ts ih => intro f hf x; exact ih _ fun vs hvs => hf _ (.cons x hvs)
        refine all _ _ fun vs hvs u1 h1 => ?_
        exact (unC_lamC hvs _).2 h1)
      refine wp_seq (Code.wp_mono ?_ (ihx _ _ _ s u h' bs a w hf))
      intro e a' w' hp
      obtain ⟨hne, s', u', bs', hq, hf', hs, hk, ha⟩ := hp
      have hkw : Kept wrt s s' := narrow_kept rfl hk
      cases e with
      | normal =>
        simp only at hq
        split at hq
        · rename_i vs hvs
          have hkinds := unC_kinds hq
          have hy := (unC_lamC hkinds _).1 hq
          have hfa := hf.anew hf' hs hk ha hvs
          refine Code.wp_mono ?_ (ihy _ _ _ _ u' hy bs a' w' hfa)
          intro e2 a2 w2 hp2
          exact Post.next hs.forget (narrow_kept rfl (anew_kept hk hvs)) (fun d hd => ha d (hdx d hd)) (hp2.mono hdy)
        · exact hq.elim
      | exit id => exact ⟨hne, s', u', bs', hq, hf', hs, hkw, fun d hd => ha d (hdx d hd)⟩
      | goto l => exact ⟨hne, s', u', bs', hq, hf', hs, hkw, fun d hd => ha d (hdx d hd)⟩
      | ret => exact ⟨hne, s', u', bs', hq, hf', hs, hkw, fun d hd => ha d (hdx d hd)⟩
      | panic c => exact absurd rfl (hne c)
      | outgrown => exact ⟨hne, s', u', bs', hq, hf', hs, hkw, fun d hd => ha d (hdx d hd)⟩
  | cond c x y ihx ihy =>
    intro p wrt Q s u h bs a w hf
    have hdx : ∀ d, memB (codeDsts (.cond c x y)) d = false → memB (codeDsts x) d = false := fun d h => by simp only [codeDsts, memB_append, Bool.or_eq_false_iff] at h; exact h.1
    have hdy : ∀ d, memB (codeDsts (.cond c x y)) d = false → memB (codeDsts y) d = false := fun d h => by simp only [codeDsts, memB_append, Bool.or_eq_false_iff] at h; exact h.2
    have hx : ∀ (st : St), a.eval c = .bool true → Fits st bs u a w → (st.loc = s.loc ∧ st.n = s.n) → WPc C ann x (2 * p) wrt Q st u → (Code.cond c x y).wp C.P (Post wrt s bs u a w (codeDsts (.cond c x y)) Q) a w := by
      intro st hc hfs hsn hw
      refine wp_cond_true hc (Code.wp_mono ?_ (ihx _ _ _ st u hw bs a w hfs))
      intro e a' w' hp
      exact Post.next (Step.refl hf.sub) ⟨hsn.2, by rw [hsn.1]; exact Nat.le_refl _, fun i cs e _ => by rw [hsn.1]; exact e⟩ (fun _ _ => rfl) (hp.mono hdx)
    have hy : ∀ (st : St), a.eval c = .bool false → Fits st bs u a w → (st.loc = s.loc ∧ st.n = s.n) → WPc C ann y (2 * p + 1) wrt Q st u → (Code.cond c x y).wp C.P (Post wrt s bs u a w (codeDsts (.cond c x y)) Q) a w := by
      intro st hc hfs hsn hw
      refine wp_cond_false hc (Code.wp_mono ?_ (ihy _ _ _ st u hw bs a w hfs))
      intro e a' w' hp
      exact Post.next (Step.refl hf.sub) ⟨hsn.2, by rw [hsn.1]; exact Nat.le_refl _, fun i cs e _ => by rw [hsn.1]; exact e⟩ (fun _ _ => rfl) (hp.mono hdy)
    have hsome : ∀ v, s.sv c = some v → ∀ t, c = .tmp t → (look s.env t).isSome = true := fun v hv t ht => by subst ht; simp only [St.sv] at hv; rw [hv]; rfl
    simp only [WPc] at h
    split at h
    · rename_i hc; exact hx s (Option.some.inj (hf.sv hc)).symm hf ⟨rfl, rfl⟩ h
    · rename_i hc; exact hy s (Option.some.inj (hf.sv hc)).symm hf ⟨rfl, rfl⟩ h
    · rename_i q d hc
      have hev := (Option.some.inj (hf.sv hc)).symm
      by_cases hq : q
      · have e1 : a.eval c = .bool true := by rw [hev]; simp [hq]
        obtain ⟨h1, h2⟩ := tell_fits (x := .tt) hf (by rw [e1]; rfl) (hsome _ hc)
        exact hx _ e1 h1 h2 (h.1 hq)
      · have e1 : a.eval c = .bool false := by rw [hev]; simp [hq]
        obtain ⟨h1, h2⟩ := tell_fits (x := .ff) hf (by rw [e1]; rfl) (hsome _ hc)
        exact hy _ e1 h1 h2 (h.2 hq)
    · rename_i q d hc
      have hev := (Option.some.inj (hf.sv hc)).symm
      by_cases hq : q
      · have e1 : a.eval c = .bool false := by rw [hev]; simp [hq]
        obtain ⟨h1, h2⟩ := tell_fits (x := .ff) hf (by rw [e1]; rfl) (hsome _ hc)
        exact hy _ e1 h1 h2 (h.2 hq)
      · have e1 : a.eval c = .bool true := by rw [hev]; simp [hq]
        obtain ⟨h1, h2⟩ := tell_fits (x := .tt) hf (by rw [e1]; rfl) (hsome _ hc)
        exact hx _ e1 h1 h2 (h.1 hq)
    · rename_i b hc
      have hev := (Option.some.inj (hf.sv hc)).symm
      cases b with
      | true =>
        obtain ⟨h1, h2⟩ := tell_fits (x := .tt) hf (by rw [hev]; rfl) (hsome _ hc)
        exact hx _ hev h1 h2 (h.1 rfl)
      | false =>
        obtain ⟨h1, h2⟩ := tell_fits (x := .ff) hf (by rw [hev]; rfl) (hsome _ hc)
        exact hy _ hev h1 h2 (h.2 rfl)
    · exact h.elim
  | block id b ih =>
    intro p wrt Q s u h bs a w hf
    simp only [WPc] at h
    refine wp_block (Code.wp_mono ?_ (ih _ _ _ s u h bs a w hf))
    intro e a' w' hp
    obtain ⟨hne, s', u', bs', hq, hf', hs, hk, ha⟩ := hp
    cases e with
    | exit j =>
      simp only at hq
      simp only [Exit.inBlock]
      split at hq
      · rename_i hj
        have := Nat.eq_of_beq_eq_true hj
        subst this
        rw [if_pos rfl]
        exact ⟨fun _ => Exit.noConfusion, s', u', bs', hq, hf', hs, hk, ha⟩
      · rename_i hj
        rw [if_neg (fun e => by subst e; rw [Nat.beq_refl] at hj; cases hj)]
        exact ⟨hne, s', u', bs', hq, hf', hs, hk, ha⟩
    | normal => exact ⟨hne, s', u', bs', hq, hf', hs, hk, ha⟩
    | goto l => exact ⟨hne, s', u', bs', hq, hf', hs, hk, ha⟩
    | ret => exact ⟨hne, s', u', bs', hq, hf', hs, hk, ha⟩
    | panic c => exact absurd rfl (hne c)
    | outgrown => exact ⟨hne, s', u', bs', hq, hf', hs, hk, ha⟩
  | scope b ih =>
    intro p wrt Q s u h bs a w hf
    simp only [WPc] at h
    refine wp_scope_straight (Code.wp_mono ?_ (ih _ _ _ s u h bs a w hf))
    intro e a' w' hp
    obtain ⟨hne, s', u', bs', hq, hf', hs, hk, ha⟩ := hp
    cases e with
    | goto l => exact hq.elim
    | exit j => exact ⟨hne, s', u', bs', hq, hf', hs, hk, ha⟩
    | normal => exact ⟨hne, s', u', bs', hq, hf', hs, hk, ha⟩
    | ret => exact ⟨hne, s', u', bs', hq, hf', hs, hk, ha⟩
    | panic c => exact absurd rfl (hne c)
    | outgrown => exact ⟨hne, s', u', bs', hq, hf', hs, hk, ha⟩
  | loop b ih =>
    intro p wrt Q s u h bs a w hf
    simp only [WPc] at h
    split at h
    · exact h.elim
    · rename_i an _
      split at h
      · exact h.elim
      · rename_i vs0 hvs0
        obtain ⟨I, μ, h0, hround⟩ := h
        let Inv : (List Value × H) → Act → World → Prop := fun g a' w' => Kinds an.tys g.1 ∧ (unC an.tys I g.1 fun r => r g.2) ∧ Fits (anew s (codeDsts b) an g.1) bs g.2 a' w' ∧ Step u bs w g.2 bs w' ∧
          (∀ d, memB (codeDsts b) d = false → a'.tmps[d]? = a.tmps[d]?) ∧ Kept (narrow wrt s.loc.length an.boxes) s (anew s (codeDsts b) an g.1)
        let m : (List Value × H) → Nat := fun g => (Classical.epsilon fun n => unC an.tys μ g.1 fun m => n = m g.2)
        have hm : ∀ g, Kinds an.tys g.1 → ∀ f : (H → Nat) → Prop, unC an.tys μ g.1 f → ∃ r, f r ∧ m g = r g.2 := by
          intro g hg f hfm
          obtain ⟨r, hr⟩ := unC_val μ hg
          refine ⟨r, (hr _).1 hfm, ?_⟩
          have := Classical.epsilon_spec (p := fun n => unC an.tys μ g.1 fun m => n = m g.2) ⟨r g.2, (hr _).2 rfl⟩
          exact (hr _).1 this
        have hk0 := unC_kinds h0
        have hkeep0 : Kept (narrow wrt s.loc.length an.boxes) s (anew s (codeDsts b) an vs0) := anew_kept (Kept.refl _ _) hvs0
        refine wp_loop_g Inv m ?_ (vs0, u) ⟨hk0, h0, hf.anew (wrt := wrt) hf (Step.refl hf.sub) (Kept.refl _ _) (fun _ _ => rfl) hvs0, Step.refl hf.sub, fun _ _ => rfl, hkeep0⟩
        rintro ⟨vs, u1⟩ a1 w1 ⟨hvk, hI, hf1, hs1, ha1, hkn⟩
        have hb := allC_of hround hvk u1 hI
        have hlen1 : (anew s (codeDsts b) an vs).loc.length = s.loc.length := by simp only [anew, setBoxes_len]
        refine Code.wp_mono ?_ (ih _ _ _ _ u1 hb bs a1 w1 hf1)
        intro e a' w' hp
        obtain ⟨hne, s', u', bs', hq, hf', hs', hk, ha⟩ := hp
        have hks : Kept (narrow wrt s.loc.length an.boxes) s s' := hkn.trans hk
        have hkw : Kept wrt s s' := narrow_kept rfl hks
        have hst := hs1.trans hs'
        have hfr : ∀ d, memB (codeDsts b) d = false → a'.tmps[d]? = a.tmps[d]? := fun d hd => (ha d hd).trans (ha1 d hd)
        cases e with
        | normal =>
          simp only at hq
          split at hq
          · rename_i vs' hvs'
            have hvk' := unC_kinds hq
            refine ⟨(vs', u'), ⟨hvk', unC_mono hq fun r hr => ?_, hf.anew hf' hst hks hfr hvs', hst.forget, hfr, anew_kept hks hvs'⟩, ?_⟩
            · obtain ⟨m1, h1, _⟩ := hm (vs', u') hvk' _ hr
              obtain ⟨m0, h2, _⟩ := hm (vs, u1) hvk _ h1
              exact h2.1
            · obtain ⟨r, hr⟩ := unC_val I hvk'
              obtain ⟨m1, h1, e1⟩ := hm (vs', u') hvk' _ ((hr _).1 hq)
              obtain ⟨m0, h2, e0⟩ := hm (vs, u1) hvk _ h1
              rw [e1, e0]; exact h2.2
          · exact hq.elim
        | exit id => exact ⟨hne, s', u', bs', hq, hf', hst, hkw, hfr⟩
        | goto l => exact ⟨hne, s', u', bs', hq, hf', hst, hkw, hfr⟩
        | ret => exact ⟨hne, s', u', bs', hq, hf', hst, hkw, hfr⟩
        | panic c => exact absurd rfl (hne c)
        | outgrown => exact ⟨hne, s', u', bs', hq, hf', hst, hkw, hfr⟩

/-! ### a function -/

/-- The results' cells, one behind the other. -/
def resVals (s : St) : List ResultVar → List Sh → Option (List Value)
  | [], [] => some []
  | .tmp d :: rs, .one _ :: ss => match (look s.env d).bind SV.val, resVals s rs ss with
    | some v, some vs => some (v :: vs)
    | _, _ => none
  | .cell d _ :: rs, sh :: ss => match look s.env d, resVals s rs ss with
    | some (.loc i off), some vs => match s.loc[i]? with
      | some cs => match Nat.ble (off + sh.cts.length) cs.length with
        | true => some ((cs.drop off).take sh.cts.length ++ vs)
        | false => none
      | none => none
    | _, _ => none
  | _, _ => none

/-- Do the results lie in slots and cells of these kinds? -/
def resOk (P : Program) : List ResultVar → List Sh → Bool
  | [], [] => true
  | .tmp _ :: rs, .one _ :: ss => resOk P rs ss
  | .cell _ t :: rs, sh :: ss => (match shOf P t, sh with
    | some (.one c), .one d => (match c, d with
      | .int k, .int k' => kEq k k'
      | .bool, .bool => true
      | .str, .str => true
      | .ptr, .ptr => true
      | .slice, .slice => true
      | .map, .map => true
      | .val, .val => true
      | _, _ => false)
    | some (.agg c), .agg d => Nat.beq c.length d.length
    | _, _ => false) && resOk P rs ss
  | _, _ => false

theorem encShs_one {t : CT} {ss : List Sh} {v : Value} {vs : List Value} : encShs (.one t :: ss) (v :: vs) = v :: encShs ss vs := rfl

theorem results_run {P : Program} {s : St} {bs : List Nat} {u : H} {a : Act} {w : World} (hf : Fits s bs u a w) : ∀ (rs : List ResultVar) (ss : List Sh) (vs : List Value), resVals s rs ss = some vs → resOk P rs ss = true →
    (rs.mapM (fun (r : ResultVar) => match r with
      | .tmp t => (pure (a.tmps.getD t undef) : Sem Value)
      | .cell x t => do loadVar t (← asAddr (a.tmps.getD x undef)))).run P w = Result.ok (encShs ss vs) w := by
  intro rs
  induction rs with
  | nil =>
    intro ss vs h ho
    cases ss with
    | nil => simp [resVals] at h; subst h; rfl
    | cons => simp [resVals] at h
  | cons r rs ih =>
    intro ss vs h ho
    cases r with
    | tmp d =>
      cases ss with
      | nil => simp [resVals] at h
      | cons sh ss =>
        cases sh with
        | agg => simp [resVals] at h
        | one t =>
          simp only [resVals] at h
          split at h
          · rename_i v vs' hv hvs
            cases h
            have ho' : resOk P rs ss = true := ho
            have h1 := ih ss vs' hvs ho'
            simp only [Option.bind_eq_some_iff] at hv
            obtain ⟨x, hx, hxv⟩ := hv
            obtain ⟨v', h2, h3⟩ := hf.env _ (look_mem hx)
            simp only at h2 h3
            rw [SV.val_conc hxv bs] at h2; cases h2
            have hg : a.tmps.getD d undef = v := by rw [Array.getD_eq_getD_getElem?, h3]; rfl
            simp only [List.mapM_cons, hg, pure_bind, Sem.run_bind, encShs_one]
            rw [h1]
            rfl
          · cases h
    | cell d t =>
      cases ss with
      | nil => simp [resVals] at h
      | cons sh ss =>
        have hr : resVals s (.cell d t :: rs) (sh :: ss) = some vs := h
        simp only [resVals] at hr
        split at hr
        · rename_i i off vs' hd hvs
          split at hr
          · rename_i cs hl
            split at hr
            · rename_i hb
              cases hr
              have hb := Nat.le_of_ble_eq_true hb
              have ho1 : resOk P (.cell d t :: rs) (sh :: ss) = true := ho
              simp only [resOk, Bool.and_eq_true] at ho1
              have h1 := ih ss vs' hvs ho1.2
              obtain ⟨v', h2, h3⟩ := hf.env _ (look_mem hd)
              simp only at h2 h3
              obtain ⟨b, T, hb1, hb2⟩ := hf.loc i cs hl
              simp only [conc, hb1, Option.some.injEq] at h2
              subst h2
              have hg : a.tmps.getD d undef = .pointer (some ⟨b, off, none⟩) := by rw [Array.getD_eq_getD_getElem?, h3]; rfl
              have hval : (loadVar t ⟨b, off, none⟩).run P w = .ok (sh.take ((cs.drop off).take sh.cts.length ++ vs')).1 w ∧ (sh.take ((cs.drop off).take sh.cts.length ++ vs')).2 = vs' := by
                have h4 := ho1.1
                cases hsh : shOf P t with
                | none => rw [hsh] at h4; simp at h4
                | some sh' =>
                  rw [hsh] at h4
                  have hlen : sh'.cts.length = sh.cts.length := by
                    cases sh' <;> cases sh <;> simp only [Sh.cts] at h4 ⊢ <;> first | rfl | (exact Nat.eq_of_beq_eq_true h4) | cases h4
                  have hload := loadBox_run (P := P) (off := off) hb2 sh'.cts.length 0 #[] (by rw [hlen]; simpa using hb)
                  have hlv := loadVar_run hsh ⟨b, off, none⟩ (vs := (cs.drop off).take sh'.cts.length) (by simp; rw [hlen]; omega) (by simpa using hload) (by
                    intro c hc
                    subst hc
                    have hl1 : sh.cts.length = 1 := by rw [← hlen]; rfl
                    have hlt : off < cs.length := by omega
                    simp only [Sh.cts, List.length_cons, List.length_nil] at hlen ⊢
                    refine ⟨cs[off], ?_, ?_⟩
                    · rw [List.drop_eq_getElem_cons hlt]; rfl
                    · simp only [World.cell?, hb2]; simp [hlt])
                  rw [hlen] at hlv
                  have hn : ((cs.drop off).take sh.cts.length).length = sh.cts.length := by simp; omega
                  rw [hlv]
                  cases sh' with
                  | one c' =>
                    cases sh with
                    | agg _ => simp at h4
                    | one c =>
                      simp only [Sh.cts, List.length_cons, List.length_nil] at hn ⊢
                      match hx : (cs.drop off).take 1, hn with
                      | [x], _ => exact ⟨rfl, rfl⟩
                  | agg c' =>
                    cases sh with
                    | one _ => simp at h4
                    | agg c =>
                      simp only [Sh.cts] at hn ⊢
                      refine ⟨?_, ?_⟩
                      · simp only [Sh.mk, Sh.take]
                        rw [List.take_append_of_le_length (by omega), List.take_of_length_le (l := List.take _ _) (by omega)]
                      · simp only [Sh.take]
                        rw [List.drop_append_of_le_length (by omega), List.drop_of_length_le (by omega)]
                        rfl
              have hz : asAddr (.pointer (some ⟨b, off, none⟩)) = pure ⟨b, off, none⟩ := rfl
              simp only [List.mapM_cons, hg, hz, pure_bind, Sem.run_bind, hval.1, Result.andThen_ok]
              rw [h1]
              simp only [encShs, hval.2]
              rfl
            · cases hr
          · cases hr
        · cases hr

/-- The block of deferred calls is shut at the end. -/
def endD (d : Option Nat) (u : H) (f : H → Prop) : Prop :=
  match d with
  | none => f u
  | some D => u D = some (.deferred (some [])) ∧ f (u.ins D (.deferred none))

/-- How a body must end. -/
def endW (rs : List ResultVar) (ss : List Sh) (K : Cur (ctsOf ss) (H → Prop)) : Exit → St → H → Prop
  | .normal, s, u => match resVals s rs ss with
    | some vs => endD s.dfs u fun u => unC (ctsOf ss) K vs fun r => r u
    | none => False
  | .ret, s, u => match resVals s rs ss with
    | some vs => endD s.dfs u fun u => unC (ctsOf ss) K vs fun r => r u
    | none => False
  | _, _, _ => False

def initEnv : Nat → List Value → List (Nat × SV)
  | _, [] => []
  | i, v :: vs => (i, .v v) :: initEnv (i + 1) vs

theorem initEnv_mem {vs : List Value} {i : Nat} {p : Nat × SV} (h : p ∈ initEnv i vs) : ∃ j v, vs[j]? = some v ∧ p = (i + j, .v v) := by
  induction vs generalizing i with
  | nil => cases h
  | cons v vs ih =>
    simp only [initEnv] at h
    cases h with
    | head => exact ⟨0, v, rfl, rfl⟩
    | tail _ h =>
      obtain ⟨j, v', h1, h2⟩ := ih h
      exact ⟨j + 1, v', h1, by rw [h2]; congr 1; omega⟩

/-- THE RULE: a function whose body's formula holds. -/
theorem fn_soundE {C : Cfg} (hG : Good C) {f : FuncId} {fn : Func} {c : Code} (hfn : C.P.funcs[f]? = some fn) (hb : fn.body = some c) (ann : List (Nat × Ann)) {args : List Value} {env : List (Nat × SV)}
    (henv : ∀ p ∈ env, ∃ v, args[p.1]? = some v ∧ conc [] p.2 = some v) {ss : List Sh} {u : H}
    {K : Cur (ctsOf ss) (H → Prop)} (hn : Nat.ble args.length fn.ntmps = true) (hr : resOk C.P fn.results.toList ss = true)
    (h : WPc C ann c 1 (fun _ => true) (endW fn.results.toList ss K) { n := fn.ntmps, env := env, loc := [] } u) : ClT C.P f args.toArray ss u K := by
  intro w hw
  refine callsIn_wide.1 (callsIn_of_wp_marks (F := Fence.wide) (n := 0) hfn hb trivial (wpIn_wide.2 ?_))
  have hle := Nat.le_of_ble_eq_true hn
  have hf : Fits { n := fn.ntmps, env := env, loc := [] } [] u { tmps := args.toArray ++ Array.replicate (fn.ntmps - args.toArray.size) undef, defers := [] } w := by
    refine ⟨⟨rfl, by simp; omega, ?_⟩, rfl, by simp, by simp, by simp, hw⟩
    intro p hp
    obtain ⟨v, h1, h2⟩ := henv p hp
    refine ⟨v, h2, ?_⟩
    have hlt : p.1 < args.length := by
      rcases Nat.lt_or_ge p.1 args.length with k | k
      · exact k
      · rw [List.getElem?_eq_none k] at h1; cases h1
    rw [Array.getElem?_append_left (by simpa using hlt)]
    simpa using h1
  have hs := code_sound hG ann c 1 _ _ _ u h [] _ w hf
  refine Code.wp_mono ?_ hs
  intro e a' w' hp
  obtain ⟨hne, s', u', bs', hq, hf', hst, _, _⟩ := hp
  have fin : ∀ vs, resVals s' fn.results.toList ss = some vs → (endD s'.dfs u' fun u' => unC (ctsOf ss) K vs fun r => r u') →
      LeavesInM Fence.wide 0 C.P fn a'.tmps (fun e w' => ∃ v1 u1, e = .returned v1 ∧ (∃ vs, Kinds (ctsOf ss) vs ∧ v1 = encRes ss vs ∧ unC (ctsOf ss) K vs fun r => r u1) ∧ Step u [] w u1 [] w') a'.defers .returning w' := by
    intro vs hv hK
    have hres : ∀ s2 u2 bs2 a2 w2, Fits s2 bs2 u2 a2 w2 → a2.tmps = a'.tmps → resVals s2 fn.results.toList ss = some vs → (results fn a'.tmps).run C.P w2 = .ok (encRes ss vs) w2 := by
      intro s2 u2 bs2 a2 w2 hf2 ht hv2
      have hrun := results_run (P := C.P) hf2 fn.results.toList ss vs hv2 hr
      rw [← ht]
      unfold results
      rw [Sem.run_bind]
      have e1 : (fn.results.mapM (fun (r : ResultVar) => match r with
          | .tmp t => (pure (a2.tmps.getD t undef) : Sem Value)
          | .cell x t => do loadVar t (← asAddr (a2.tmps.getD x undef)))).run C.P w2 = Result.ok (encShs ss vs).toArray w2 := by
        rw [Array.mapM_eq_mapM_toList, Sem.run_map, hrun]
        rfl
      refine (congrArg (fun r => Result.andThen r _) e1).trans ?_
      simp only [Result.andThen_ok]
      unfold encRes
      cases hx : encShs ss vs with
      | nil => rfl
      | cons v l =>
        cases l with
        | nil => rfl
        | cons v2 l => rfl
    rw [hf'.defers]
    unfold endD at hK
    split at hK
    · rename_i hd
      rw [hd]
      exact ⟨_, hres s' u' bs' a' w' hf' rfl hv, _, u', rfl, ⟨vs, unC_kinds hK, rfl, hK⟩, hst.forget⟩
    · rename_i D hd
      rw [hd]
      obtain ⟨hD, hK⟩ := hK
      have hDw := hf'.sub _ _ hD
      have htk := run_takeDeferred (P := C.P) hDw
      have hstep : Step u' bs' w' (u'.ins D (.deferred none)) bs' (w'.putObj D (.deferred none)) := by
        have hlt := hf'.sub.lt hD
        refine ⟨fun b x h => ?_, rfl, rfl, rfl, Nat.le_refl _, by simp, fun b _ hb _ => ?_, fun b _ hb => ?_, [], by simp, by simp⟩
        · unfold H.ins at h
          split at h
          · rename_i hbg; subst hbg; cases h; exact World.putObj_heap_same hlt
          · rename_i hbg; rw [World.putObj_heap_other hbg]; exact hf'.sub b x h
        · exact World.putObj_heap_other fun e => by rw [e, hD] at hb; cases hb
        · rw [H.ins_other _ _ fun e => by rw [e, hD] at hb; cases hb]; exact hb
      have hf2 : Fits s' bs' (u'.ins D (.deferred none)) a' (w'.putObj D (.deferred none)) := by
        refine ⟨hf'.toFitsE, hf'.len, fun i cs e => ?_, hf'.nodup, fun b hb => ?_, hstep.sub⟩
        · obtain ⟨b, T, h1, h2⟩ := hf'.loc i cs e
          exact ⟨b, T, h1, (World.putObj_heap_other fun e => by rw [e, hDw] at h2; cases h2).trans h2⟩
        · exact ⟨hstep.honest b (hf'.hid b hb).2 (hf'.hid b hb).1, by simpa using (hf'.hid b hb).2⟩
      refine ⟨by simp, .inl ⟨D, _, rfl, htk, ?_⟩⟩
      exact ⟨_, hres s' _ bs' a' _ hf2 rfl hv, _, _, rfl, ⟨vs, unC_kinds hK, rfl, hK⟩, (hst.trans hstep).forget⟩
  cases e with
  | normal =>
    simp only [endW] at hq
    split at hq
    · rename_i vs hv; exact fin vs hv hq
    · exact hq.elim
  | ret =>
    simp only [endW] at hq
    split at hq
    · rename_i vs hv; exact fin vs hv hq
    · exact hq.elim
  | exit id => exact hq.elim
  | goto l => exact hq.elim
  | panic c => exact absurd rfl (hne c)
  | outgrown => exact hq.elim

theorem fn_sound {C : Cfg} (hG : Good C) {f : FuncId} {fn : Func} {c : Code} (hfn : C.P.funcs[f]? = some fn) (hb : fn.body = some c) (ann : List (Nat × Ann)) {args : List Value} {ss : List Sh} {u : H}
    {K : Cur (ctsOf ss) (H → Prop)} (hn : Nat.ble args.length fn.ntmps = true) (hr : resOk C.P fn.results.toList ss = true)
    (h : WPc C ann c 1 (fun _ => true) (endW fn.results.toList ss K) { n := fn.ntmps, env := initEnv 0 args, loc := [] } u) : ClT C.P f args.toArray ss u K :=
  fn_soundE hG hfn hb ann (fun p hp => by
    obtain ⟨j, v, h1, rfl⟩ := initEnv_mem hp
    exact ⟨v, by simpa using h1, rfl⟩) hn hr h

/-- The slots at the start, behind np parameters what is captured: addresses. -/
def initEnvC (np : Nat) : Nat → List Value → List (Nat × SV)
  | _, [] => []
  | i, v :: vs => (i, match Nat.blt i np with
    | true => .v v
    | false => svOf .addr v) :: initEnvC np (i + 1) vs

theorem initEnvC_mem {np : Nat} {vs : List Value} {i : Nat} {p : Nat × SV} (h : p ∈ initEnvC np i vs) : ∃ j v, vs[j]? = some v ∧ p.1 = i + j ∧ conc [] p.2 = some v := by
  induction vs generalizing i with
  | nil => cases h
  | cons v vs ih =>
    simp only [initEnvC] at h
    cases h with
    | head =>
      refine ⟨0, v, rfl, rfl, ?_⟩
      cases Nat.blt i np with
      | true => rfl
      | false => exact svOf_conc _ _ _
    | tail _ h =>
      obtain ⟨j, v', h1, h2, h3⟩ := ih h
      exact ⟨j + 1, v', h1, by rw [h2]; omega, h3⟩

/-- A closure's: what it has captured lies behind its parameters. -/
theorem fn_soundC (np : Nat) {C : Cfg} {args : List Value} (hG : Good C) {f : FuncId} {fn : Func} (hfn : C.P.funcs[f]? = some fn) (hb : fn.body.isSome = true) (ann : List (Nat × Ann)) {ss : List Sh} {u : H}
    {K : Cur (ctsOf ss) (H → Prop)} (hn : Nat.ble args.length fn.ntmps = true) (hr : resOk C.P fn.results.toList ss = true)
    (h : WPc C ann (fn.body.getD .skip) 1 (fun _ => true) (endW fn.results.toList ss K) { n := fn.ntmps, env := initEnvC np 0 args, loc := [] } u) : ClT C.P f args.toArray ss u K := by
  cases hc : fn.body with
  | none => rw [hc] at hb; cases hb
  | some c =>
    rw [hc] at h
    exact fn_soundE hG hfn hc ann (fun p hp => by
      obtain ⟨j, v, h1, h2, h3⟩ := initEnvC_mem hp
      exact ⟨v, by rw [h2]; simpa using h1, h3⟩) hn hr h

/-- The same, the body named by its function. -/
theorem fn_sound' {C : Cfg} {args : List Value} (hG : Good C) {f : FuncId} {fn : Func} (hfn : C.P.funcs[f]? = some fn) (hb : fn.body.isSome = true) (ann : List (Nat × Ann)) {ss : List Sh} {u : H}
    {K : Cur (ctsOf ss) (H → Prop)} (hn : Nat.ble args.length fn.ntmps = true) (hr : resOk C.P fn.results.toList ss = true)
    (h : WPc C ann (fn.body.getD .skip) 1 (fun _ => true) (endW fn.results.toList ss K) { n := fn.ntmps, env := initEnv 0 args, loc := [] } u) : ClT C.P f args.toArray ss u K := by
  cases hc : fn.body with
  | none => rw [hc] at hb; cases hb
  | some c => rw [hc] at h; exact fn_sound hG hfn hc ann hn hr h

end
end Go.Proofs.YtncninpdlpemgaaGreat

/- VcGood -/
namespace Go.Proofs.YtncninpdlpemgaaGreat

/-- A value of a type out of its cells. -/
def mkV (P : Program) (t : TypeId) (l : List Value) : Value :=
  match aggOf P t with
  | true => .agg l.toArray
  | false => l.headD undef

def flatF (P : Program) (k : TypeId → Option Nat) : Nat → List Field → Option Nat
  | i, [] => some i
  | i, f :: r => match f.name != "_", Nat.beq f.offset i, k f.type, sizeOfT P f.type with
    | true, true, some w, some w' => match Nat.beq w w' with
      | true => flatF P k (i + w) r
      | false => none
    | _, _, _, _ => none

/-- Of how many whole numbers a type is made, if of nothing else. -/
def flatT (P : Program) : Nat → TypeId → Option Nat
  | 0, _ => none
  | d + 1, t => match P.underlying t with
    | some (.int _) => some 1
    | some (.struct fs) => match P.stoodInHeld t with
      | true => none
      | false => flatF P (flatT P d) 0 fs.toList
    | _ => none

def eqVB : Value → Value → Bool
  | .int _ a, .int _ b => decide (a = b)
  | _, _ => false

def eqB : List Value → List Value → Bool
  | [], [] => true
  | x :: xs, y :: ys => eqVB x y && eqB xs ys
  | _, _ => false

def pairs : List Value → List Value → Bool
  | [], [] => true
  | .int k _ :: xs, .int k' _ :: ys => kEq k k' && pairs xs ys
  | _, _ => false

theorem eqCells_B : ∀ (l m : List Value) (z : PD), eqCells l m = some z → pairs l m = true ∧ @decide z.p z.d = eqB l m := by
  have one : ∀ x y z, eqCell x y = some z → ∃ k a b, x = .int k a ∧ y = .int k b ∧ @decide z.p z.d = decide (a = b) := by
    intro x y z h
    unfold eqCell at h
    split at h
    · rename_i k a k' b
      split at h
      · rename_i hk
        have := kEq_eq hk
        subst this
        cases h
        exact ⟨_, _, _, rfl, rfl, rfl⟩
      · cases h
    · cases h
  intro l
  induction l with
  | nil =>
    intro m z h
    cases m with
    | nil => simp only [eqCells, Option.some.injEq] at h; subst h; exact ⟨rfl, rfl⟩
    | cons => simp [eqCells] at h
  | cons x l ih =>
    intro m z h
    cases m with
    | nil => cases l <;> simp [eqCells] at h
    | cons y m =>
      by_cases hlm : l = [] ∧ m = []
      · obtain ⟨rfl, rfl⟩ := hlm
        simp only [eqCells] at h
        obtain ⟨k, a, b, rfl, rfl, hd⟩ := one _ _ _ h
        refine ⟨by simp [pairs, kEq_self], ?_⟩
        rw [hd]; simp [eqB, eqVB]
      · have h' : (match eqCell x y, eqCells l m with
            | some a, some b => some ⟨a.p ∧ b.p, @instDecidableAnd a.p b.p a.d b.d⟩
            | _, _ => (none : Option PD)) = some z := by
          cases l with
          | nil => cases m with
            | nil => exact absurd ⟨rfl, rfl⟩ hlm
            | cons => exact h
          | cons => exact h
        split at h'
        · rename_i a b ha hb
          obtain ⟨k, a1, b1, rfl, rfl, hd⟩ := one _ _ _ ha
          obtain ⟨h1, h2⟩ := ih m b hb
          cases h'
          refine ⟨by simp [pairs, kEq_self, h1], ?_⟩
          simp only [eqB, eqVB, ← h2, ← hd]
          obtain ⟨ap, ad⟩ := a
          obtain ⟨bp, bd⟩ := b
          by_cases e1 : ap <;> by_cases e2 : bp <;> simp [e1, e2]
        · cases h'

theorem pairs_take : ∀ (n : Nat) (l m : List Value), pairs l m = true → pairs (l.take n) (m.take n) = true ∧ pairs (l.drop n) (m.drop n) = true ∧ eqB l m = (eqB (l.take n) (m.take n) && eqB (l.drop n) (m.drop n)) := by
  intro n
  induction n with
  | zero => intro l m h; exact ⟨rfl, h, by simp [eqB]⟩
  | succ n ih =>
    intro l m h
    cases l with
    | nil => cases m with
      | nil => exact ⟨rfl, rfl, rfl⟩
      | cons => simp [pairs] at h
    | cons x l => cases m with
      | nil => cases x <;> simp [pairs] at h
      | cons y m =>
        cases x <;> cases y <;> simp only [pairs, Bool.false_eq_true] at h
        rw [Bool.and_eq_true] at h
        obtain ⟨h1, h2, h3⟩ := ih l m h.2
        refine ⟨by simp [pairs, h.1, h1], h2, ?_⟩
        simp only [List.take_succ_cons, List.drop_succ_cons, eqB, h3, Bool.and_assoc]

theorem part_flat {P : Program} {t : TypeId} {w : Nat} {xs : Array Value} {off : Nat} (hs : sizeOfT P t = some w) (hu : (P.underlying t).isSome = true) (hl : aggOf P t = false → 1 = w) (hb : off + w ≤ xs.size) (W : World) :
    (part t xs off).run P W = .ok (mkV P t ((xs.toList.drop off).take w)) W := by
  obtain ⟨d, hd⟩ := Option.isSome_iff_exists.1 hu
  unfold sizeOfT at hs
  cases hi : P.info? t with
  | none => rw [hi] at hs; cases hs
  | some i =>
    rw [hi] at hs
    cases hs
    have hsz : (sizeOf t).run P W = .ok i.size W := by simp [sizeOf, run_typeInfo W hi]
    cases hg : aggOf P t with
    | true =>
      have : (isAgg t).run P W = .ok true W := by
        unfold aggOf at hg
        rw [hd] at hg
        cases d <;> simp only [Bool.false_eq_true] at hg <;> simp [isAgg, run_underlying hd]
      simp only [part, Sem.run_bind, this, Result.andThen_ok, if_true, hsz, mkV, hg]
      simp only [Sem.run_pure]
      congr 2
      apply Array.toList_inj.1
      simp [Array.toList_extract, List.extract_eq_take_drop]
    | false =>
      have h1 : 1 = i.size := hl hg
      have hlt : off < xs.size := by have : off + i.size ≤ xs.size := hb; omega
      have : (isAgg t).run P W = .ok false W := by
        unfold aggOf at hg
        rw [hd] at hg
        cases d <;> simp only [Bool.true_eq_false] at hg <;> simp [isAgg, run_underlying hd]
      simp only [part, Sem.run_bind, this, Result.andThen_ok, Bool.false_eq_true, if_false, mkV, hg]
      rw [Array.getElem?_eq_getElem hlt]
      simp only [Sem.run_pure]
      congr 1
      rw [← h1, List.drop_eq_getElem_cons (by simpa using hlt)]
      simp

theorem flatT_agg {P : Program} {d : Nat} {t : TypeId} {n : Nat} (h : flatT P d t = some n) : (P.underlying t).isSome = true ∧ (aggOf P t = false → 1 = n) := by
  cases d with
  | zero => simp [flatT] at h
  | succ d =>
    simp only [flatT] at h
    split at h
    · rename_i hu; cases h; exact ⟨by rw [hu]; rfl, fun _ => rfl⟩
    · rename_i hu; exact ⟨by rw [hu]; rfl, fun e => by simp [aggOf, hu] at e⟩
    · cases h

theorem equalIn_flat {P : Program} (W : World) : ∀ (d : Nat) (t : TypeId) (n e : Nat) (l m : List Value), flatT P d t = some n → l.length = n → m.length = n → pairs l m = true →
    (Op.equalIn (d + e) t (mkV P t l) (mkV P t m)).run P W = .ok (eqB l m) W := by
  intro d
  induction d with
  | zero => intro t n e l m h; simp [flatT] at h
  | succ d ih =>
    intro t n e l m h hl hm hp
    rw [show d + 1 + e = (d + e) + 1 by omega]
    simp only [flatT] at h
    split at h
    · rename_i k hu
      cases h
      have hg : aggOf P t = false := by simp [aggOf, hu]
      match l, m, hl, hm with
      | [x], [y], _, _ =>
        cases x <;> cases y <;> simp only [pairs, Bool.false_eq_true] at hp
        rw [Bool.and_eq_true] at hp
        have := kEq_eq hp.1
        subst this
        simp only [mkV, hg, List.headD_cons]
        rw [run_equalIn_int W (d + e) t _ k _ _ hu]
        simp [eqB, eqVB, BEq.beq]
    · rename_i fs hu
      split at h
      · cases h
      · rename_i hs
        have hg : aggOf P t = true := by simp [aggOf, hu]
        have hF : P.fieldsOf t = fs := by simp [Program.fieldsOf, hu]
        simp only [mkV, hg]
        rw [run_equalIn_struct W (d + e) t _ _ (by rw [hF]; exact hu) hs, hF]
        have key : ∀ (fl : List Field) (i : Nat), flatF P (flatT P d) i fl = some n → i ≤ n → pairs (l.drop i) (m.drop i) = true →
            (Op.eqFields (d + e) l.toArray m.toArray fl).run P W = .ok (eqB (l.drop i) (m.drop i)) W := by
          intro fl
          induction fl with
          | nil =>
            intro i hi hle hpi
            simp only [flatF, Option.some.injEq] at hi
            subst hi
            rw [List.drop_of_length_le (by omega), List.drop_of_length_le (by omega)]
            simp [Op.eqFields, eqB]
          | cons f fl ihf =>
            intro i hi hle hpi
            simp only [flatF] at hi
            split at hi
            · rename_i w w' hn ho hk hsz
              split at hi
              · rename_i hww
                have hww := Nat.eq_of_beq_eq_true hww
                subst hww
                have ho := Nat.eq_of_beq_eq_true ho
                have hne : f.name ≠ "_" := by simpa using hn
                have hmon : ∀ (fl : List Field) (j : Nat), flatF P (flatT P d) j fl = some n → j ≤ n := by
                  intro fl
                  induction fl with
                  | nil => intro j hj; simp only [flatF, Option.some.injEq] at hj; omega
                  | cons g fl ihg =>
                    intro j hj
                    simp only [flatF] at hj
                    split at hj
                    · split at hj
                      · have := ihg _ hj; omega
                      · cases hj
                    · cases hj
                have hle2 := hmon fl _ hi
                obtain ⟨hus, hag⟩ := flatT_agg hk
                have hp1 := part_flat (xs := l.toArray) (off := f.offset) hsz hus hag (by simp; omega) W
                have hp2 := part_flat (xs := m.toArray) (off := f.offset) hsz hus hag (by simp; omega) W
                obtain ⟨ht1, ht2, ht3⟩ := pairs_take w _ _ hpi
                have hq := ih f.type w e ((l.drop i).take w) ((m.drop i).take w) hk (by simp; omega) (by simp; omega) ht1
                rw [ho] at hp1 hp2
                simp only [Op.eqFields, if_pos hne, ho, Sem.run_bind, hp1, hp2, Result.andThen_ok, hq]
                rw [ht3]
                have hr := ihf (i + w) hi hle2 (by rw [← List.drop_drop, ← List.drop_drop]; exact ht2)
                rw [← List.drop_drop, ← List.drop_drop] at hr
                cases eqB ((l.drop i).take w) ((m.drop i).take w) with
                | true => simpa using hr
                | false => simp
              · cases hi
            · cases hi
        exact key fs.toList 0 h (Nat.zero_le _) hp
    · cases h

def flatB (P : Program) (t n : Nat) : Bool :=
  match flatT P 10 t with
  | some k => Nat.beq k n && !P.eqGuardType P.depth t && aggOf P t
  | none => false

theorem eq_flat {P : Program} {t n : Nat} (h : flatB P t n = true) (xs ys : Array Value) (z : PD) (h1 : xs.toList.length = n) (h2 : ys.toList.length = n) (he : eqCells xs.toList ys.toList = some z) (x y : Operand) (w : World) :
    (eqGuard .eql t x y (.agg xs) (.agg ys)).run P w = .ok () w ∧ (eqGuard .neq t x y (.agg xs) (.agg ys)).run P w = .ok () w ∧
    (Op.equal t (.agg xs) (.agg ys)).run P w = .ok (@decide z.p z.d) w := by
  unfold flatB at h
  split at h
  · rename_i k hk
    simp only [Bool.and_eq_true, Bool.not_eq_true'] at h
    obtain ⟨⟨hl, hg⟩, ha⟩ := h
    have hl := Nat.eq_of_beq_eq_true hl
    subst hl
    obtain ⟨hp, hd⟩ := eqCells_B _ _ _ he
    refine ⟨run_eqGuard_agg w .eql t x y xs ys hg, run_eqGuard_agg w .neq t x y xs ys hg, ?_⟩
    have := equalIn_flat w 10 t k 9990 _ _ hk h1 h2 hp
    simp only [mkV, ha] at this
    rw [hd]
    exact this
  · cases h

/-- No function of this name. -/
def noNamed (P : Program) : Bool := P.funcs.toList.all fun fn => (fn.name == "runtime.NumGoroutine") == false

theorem noNamed_spec {P : Program} (h : noNamed P = true) (f : FuncId) (fn : Func) (e : P.funcs[f]? = some fn) : (fn.name == "runtime.NumGoroutine") = false := by
  have := List.all_eq_true.1 h fn (Array.mem_toList_iff.2 (Array.mem_of_getElem? e))
  simpa using this

theorem eqN_mem {l : List (Nat × Nat)} {t n : Nat} (h : eqN l t = some n) : (t, n) ∈ l := by
  induction l with
  | nil => cases h
  | cons p r ih =>
    obtain ⟨a, b⟩ := p
    simp only [eqN] at h
    split at h
    · rename_i e; have := Nat.eq_of_beq_eq_true e; subst this; cases h; exact .head _
    · exact .tail _ (ih h)

theorem good_of {P : Program} {eqT : List (Nat × Nat)} (h1 : noNamed P = true) (h2 : P.follows .mixedOrders = true) (h3 : (eqT.all fun p => flatB P p.1 p.2) = true) (exp : List Nat) (wrap : Bool) {ent nxt : List Nat} {part : Bool} :
    Good { P := P, exp := exp, wrap := wrap, eqT := eqT, ent := ent, nxt := nxt, part := part } :=
  ⟨noNamed_spec h1, h2, fun _ _ h xs ys z l1 l2 he x y w => eq_flat (List.all_eq_true.1 h3 _ (eqN_mem h)) xs ys z l1 l2 he x y w⟩

end Go.Proofs.YtncninpdlpemgaaGreat

/- VcFns -/
set_option linter.all false
namespace Go.Proofs.YtncninpdlpemgaaGreat
def eqT : List (Nat × Nat) := [(64,2),(66,3)]
theorem good (exp : List Nat) (wrap : Bool) {ent nxt : List Nat} {part : Bool} : Good { P := Tryz.prog, exp := exp, wrap := wrap, eqT := eqT, ent := ent, nxt := nxt, part := part } := good_of (by kernel_rfl) (by kernel_rfl) (by kernel_rfl) exp wrap
def C.theodolitelaw07_KdtreeBuilt (a0 : Sl) (a1_0 : Int) (a1_1 : Int) (a1_2 : Int) (a2 : Sl) (a3 : Sl) (a4 : Int) (u : H) (K : Bool → H → Prop) : Prop := ClT Tryz.prog 5 #[(Value.slice a0.a a0.n a0.c), (Value.agg #[(Value.int IntKind.i64 a1_0), (Value.int IntKind.i64 a1_1), (Value.int IntKind.u64 a1_2)]), (Value.slice a2.a a2.n a2.c), (Value.slice a3.a a3.n a3.c), (Value.int IntKind.i64 a4)] [(Sh.one CT.bool)] u K
def C.theodolitelaw07_KdtreeEmpty (a0 : Sl) (a1_0 : Int) (a1_1 : Int) (a1_2 : Int) (a2 : Sl) (a3 : Int) (a4 : Int) (a5_0 : Int) (a5_1 : Sl) (u : H) (K : Bool → H → Prop) : Prop := ClT Tryz.prog 7 #[(Value.slice a0.a a0.n a0.c), (Value.agg #[(Value.int IntKind.i64 a1_0), (Value.int IntKind.i64 a1_1), (Value.int IntKind.u64 a1_2)]), (Value.slice a2.a a2.n a2.c), (Value.int IntKind.i64 a3), (Value.int IntKind.i64 a4), (Value.agg #[(Value.int IntKind.i64 a5_0), (Value.slice a5_1.a a5_1.n a5_1.c)])] [(Sh.one CT.bool)] u K
def C.theodolitelaw07_KdtreeWhole (a0 : Sl) (a1_0 : Int) (a1_1 : Int) (a1_2 : Int) (a2 : Sl) (a3 : Sl) (a4 : Int) (u : H) (K : Bool → H → Prop) : Prop := ClT Tryz.prog 8 #[(Value.slice a0.a a0.n a0.c), (Value.agg #[(Value.int IntKind.i64 a1_0), (Value.int IntKind.i64 a1_1), (Value.int IntKind.u64 a1_2)]), (Value.slice a2.a a2.n a2.c), (Value.slice a3.a a3.n a3.c), (Value.int IntKind.i64 a4)] [(Sh.one CT.bool)] u K
def C.theodolitelaw07_KdtreeSure (a0 : Sl) (a1_0 : Int) (a1_1 : Int) (a1_2 : Int) (a2 : Sl) (a3 : Sl) (a4 : Int) (a5 : Int) (u : H) (K : Bool → H → Prop) : Prop := ClT Tryz.prog 9 #[(Value.slice a0.a a0.n a0.c), (Value.agg #[(Value.int IntKind.i64 a1_0), (Value.int IntKind.i64 a1_1), (Value.int IntKind.u64 a1_2)]), (Value.slice a2.a a2.n a2.c), (Value.slice a3.a a3.n a3.c), (Value.int IntKind.i64 a4), (Value.int IntKind.i64 a5)] [(Sh.one CT.bool)] u K
def C.theodolitelaw07_big (a0 : Sl) (a1 : Sl) (u : H) (K : Bool → H → Prop) : Prop := ClT Tryz.prog 10 #[(Value.slice a0.a a0.n a0.c), (Value.slice a1.a a1.n a1.c)] [(Sh.one CT.bool)] u K
def C.theodolitelaw07_build (a0 : Sl) (a1 : Int) (a2_0 : Int) (a2_1 : Int) (a2_2 : Int) (u : H) (K : (Option Addr) → Int → H → Prop) : Prop := ClT Tryz.prog 13 #[(Value.slice a0.a a0.n a0.c), (Value.int IntKind.i64 a1), (Value.agg #[(Value.int IntKind.i64 a2_0), (Value.int IntKind.i64 a2_1), (Value.int IntKind.u64 a2_2)])] [(Sh.one CT.ptr), (Sh.one (CT.int IntKind.i64))] u K
def C.theodolitelaw07_awake (u : H) (K : Bool → H → Prop) : Prop := ClT Tryz.prog 15 #[] [(Sh.one CT.bool)] u K
def C.kdtree_Tree__Put (a0 : (Option Addr)) (a1_0 : Int) (a1_1 : Sl) (u : H) (K : Bool → Int → H → Prop) : Prop := ClT Tryz.prog 19 #[(Value.pointer a0), (Value.agg #[(Value.int IntKind.i64 a1_0), (Value.slice a1_1.a a1_1.n a1_1.c)])] [(Sh.one CT.bool), (Sh.one (CT.int IntKind.i64))] u K
def C.theodolitelaw07_plays (a0 : (Option Addr)) (a1 : Sl) (u : H) (K : H → Prop) : Prop := ClT Tryz.prog 20 #[(Value.pointer a0), (Value.slice a1.a a1.n a1.c)] [] u K
def C.kdtree_Tree__Search (a0 : (Option Addr)) (a1 : Sl) (a2 : Int) (a3 : Int) (u : H) (K : Sl → Sl → Sl → Int → H → Prop) : Prop := ClT Tryz.prog 21 #[(Value.pointer a0), (Value.slice a1.a a1.n a1.c), (Value.int IntKind.i64 a2), (Value.int IntKind.i64 a3)] [(Sh.agg [CT.slice, CT.slice, CT.slice]), (Sh.one (CT.int IntKind.i64))] u K
def C.theodolitekeep_Hits (a0 : Sl) (a1 : Sl) (u : H) (K : Bool → H → Prop) : Prop := ClT Tryz.prog 22 #[(Value.slice a0.a a0.n a0.c), (Value.slice a1.a a1.n a1.c)] [(Sh.one CT.bool)] u K
def C.theodolitekeep_Rows (a0 : Sl) (a1 : Sl) (u : H) (K : Bool → H → Prop) : Prop := ClT Tryz.prog 23 #[(Value.slice a0.a a0.n a0.c), (Value.slice a1.a a1.n a1.c)] [(Sh.one CT.bool)] u K
def C.kdtree_Tree__Rows (a0 : (Option Addr)) (u : H) (K : Sl → H → Prop) : Prop := ClT Tryz.prog 24 #[(Value.pointer a0)] [(Sh.one CT.slice)] u K
def C.kdtree_Tree__Delete (a0 : (Option Addr)) (a1 : Int) (u : H) (K : Bool → Int → H → Prop) : Prop := ClT Tryz.prog 25 #[(Value.pointer a0), (Value.int IntKind.i64 a1)] [(Sh.one CT.bool), (Sh.one (CT.int IntKind.i64))] u K
def C.kdtree_Tree__Len (a0 : (Option Addr)) (u : H) (K : Int → H → Prop) : Prop := ClT Tryz.prog 27 #[(Value.pointer a0)] [(Sh.one (CT.int IntKind.i64))] u K
def C.flat_TopK (a0 : Sl) (a1 : Sl) (a2 : Int) (u : H) (K : Sl → Int → H → Prop) : Prop := ClT Tryz.prog 28 #[(Value.slice a0.a a0.n a0.c), (Value.slice a1.a a1.n a1.c), (Value.int IntKind.i64 a2)] [(Sh.one CT.slice), (Sh.one (CT.int IntKind.i64))] u K
def C.theodoliteref05_Certain (a0 : Sl) (a1 : Int) (a2_0 : Sl) (a2_1 : Sl) (a2_2 : Sl) (u : H) (K : Bool → H → Prop) : Prop := ClT Tryz.prog 29 #[(Value.slice a0.a a0.n a0.c), (Value.int IntKind.i64 a1), (Value.agg #[(Value.slice a2_0.a a2_0.n a2_0.c), (Value.slice a2_1.a a2_1.n a2_1.c), (Value.slice a2_2.a a2_2.n a2_2.c)])] [(Sh.one CT.bool)] u K
def C.theodolitekeep_Vectors (a0 : Sl) (a1 : Int) (u : H) (K : Int → H → Prop) : Prop := ClT Tryz.prog 30 #[(Value.slice a0.a a0.n a0.c), (Value.int IntKind.i64 a1)] [(Sh.one (CT.int IntKind.i64))] u K
def C.kdtree_Build (a0 : Sl) (a1 : Int) (a2 : Int) (u : H) (K : (Option Addr) → Int → H → Prop) : Prop := ClT Tryz.prog 34 #[(Value.slice a0.a a0.n a0.c), (Value.int IntKind.i64 a1), (Value.int IntKind.i64 a2)] [(Sh.one CT.ptr), (Sh.one (CT.int IntKind.i64))] u K
def C.theodolitelaw07_rows (u : H) (K : Sl → H → Prop) : Prop := ClT Tryz.prog 36 #[] [(Sh.one CT.slice)] u K
def C.flat_May (a0_0 : Int) (a0_1 : Sl) (a1 : Int) (a2 : Bool) (a3 : Int) (u : H) (K : Int → H → Prop) : Prop := ClT Tryz.prog 41 #[(Value.agg #[(Value.int IntKind.i64 a0_0), (Value.slice a0_1.a a0_1.n a0_1.c)]), (Value.int IntKind.i64 a1), (Value.bool a2), (Value.int IntKind.i64 a3)] [(Sh.one (CT.int IntKind.i64))] u K
def C.slices_Clone___int_int_ (a0 : Sl) (u : H) (K : Sl → H → Prop) : Prop := ClT Tryz.prog 42 #[(Value.slice a0.a a0.n a0.c)] [(Sh.one CT.slice)] u K
def C.kdtree_Tree__cut (a0 : (Option Addr)) (a1 : Sl) (u : H) (K : (Option Addr) → H → Prop) : Prop := ClT Tryz.prog 43 #[(Value.pointer a0), (Value.slice a1.a a1.n a1.c)] [(Sh.one CT.ptr)] u K
def C.vec_Bound (a0_0 : Int) (a0_1 : Sl) (a0_2 : Sl) (a0_3 : Int) (a0_4 : Int) (a0_5 : Sl) (a1 : Sl) (u : H) (K : Int → Int → Int → H → Prop) : Prop := ClT Tryz.prog 44 #[(Value.agg #[(Value.int IntKind.i64 a0_0), (Value.slice a0_1.a a0_1.n a0_1.c), (Value.slice a0_2.a a0_2.n a0_2.c), (Value.int IntKind.u64 a0_3), (Value.int IntKind.u64 a0_4), (Value.slice a0_5.a a0_5.n a0_5.c)]), (Value.slice a1.a a1.n a1.c)] [(Sh.agg [(CT.int IntKind.u64), (CT.int IntKind.u64)]), (Sh.one (CT.int IntKind.i64))] u K
def C.flat_Asked (a0 : Sl) (a1 : Int) (a2 : Int) (a3 : Int) (u : H) (K : Int → H → Prop) : Prop := ClT Tryz.prog 45 #[(Value.slice a0.a a0.n a0.c), (Value.int IntKind.i64 a1), (Value.int IntKind.i64 a2), (Value.int IntKind.i64 a3)] [(Sh.one (CT.int IntKind.i64))] u K
def C.kdtree_Tree__Search_1 (a0 : (Option Addr)) (a1 : Addr) (u : H) (K : H → Prop) : Prop := ClT Tryz.prog 46 #[(Value.pointer a0), (Value.pointer (some a1))] [] u K
def C.kdtree_Tree__walk (a0 : (Option Addr)) (a1 : Sl) (a2 : Sl) (a3 : Int) (a4 : Int) (u : H) (K : Sl → Sl → Sl → H → Prop) : Prop := ClT Tryz.prog 47 #[(Value.pointer a0), (Value.slice a1.a a1.n a1.c), (Value.slice a2.a a2.n a2.c), (Value.int IntKind.i64 a3), (Value.int IntKind.i64 a4)] [(Sh.agg [CT.slice, CT.slice, CT.slice])] u K
def C.theodolitekeep_Ints (a0 : Sl) (a1 : Sl) (u : H) (K : Bool → H → Prop) : Prop := ClT Tryz.prog 48 #[(Value.slice a0.a a0.n a0.c), (Value.slice a1.a a1.n a1.c)] [(Sh.one CT.bool)] u K
def C.flat_Own (a0 : Sl) (u : H) (K : Sl → H → Prop) : Prop := ClT Tryz.prog 49 #[(Value.slice a0.a a0.n a0.c)] [(Sh.one CT.slice)] u K
def C.kdtree_Tree__Delete_1 (a0 : (Option Addr)) (a1 : Addr) (a2 : Addr) (u : H) (K : H → Prop) : Prop := ClT Tryz.prog 50 #[(Value.pointer a0), (Value.pointer (some a1)), (Value.pointer (some a2))] [] u K
def C.slices_DeleteFunc__api_Row_ (a0 : Sl) (a1 : Value) (u : H) (K : Sl → H → Prop) : Prop := ClT Tryz.prog 51 #[(Value.slice a0.a a0.n a0.c), a1] [(Sh.one CT.slice)] u K
def C.kdtree_Tree__Delete_1_1 (a0_0 : Int) (a0_1 : Sl) (a1 : Addr) (u : H) (K : Bool → H → Prop) : Prop := ClT Tryz.prog 52 #[(Value.agg #[(Value.int IntKind.i64 a0_0), (Value.slice a0_1.a a0_1.n a0_1.c)]), (Value.pointer (some a1))] [(Sh.one CT.bool)] u K
def C.flat_asked (a0 : Sl) (a1 : Sl) (u : H) (K : Int → H → Prop) : Prop := ClT Tryz.prog 54 #[(Value.slice a0.a a0.n a0.c), (Value.slice a1.a a1.n a1.c)] [(Sh.one (CT.int IntKind.i64))] u K
def C.topk_New (a0 : Int) (u : H) (K : (Option Addr) → Int → H → Prop) : Prop := ClT Tryz.prog 55 #[(Value.int IntKind.i64 a0)] [(Sh.one CT.ptr), (Sh.one (CT.int IntKind.i64))] u K
def C.flat_hits (a0 : Sl) (a1 : Sl) (u : H) (K : Value → H → Prop) : Prop := ClT Tryz.prog 56 #[(Value.slice a0.a a0.n a0.c), (Value.slice a1.a a1.n a1.c)] [(Sh.one CT.val)] u K
def C.topk_Heap__Offer (a0 : (Option Addr)) (a1_0 : Int) (a1_1 : Int) (a1_2 : Int) (u : H) (K : Bool → H → Prop) : Prop := ClT Tryz.prog 57 #[(Value.pointer a0), (Value.agg #[(Value.int IntKind.i64 a1_0), (Value.int IntKind.u64 a1_1), (Value.int IntKind.u64 a1_2)])] [(Sh.one CT.bool)] u K
def C.topk_Heap__List (a0 : (Option Addr)) (u : H) (K : Sl → H → Prop) : Prop := ClT Tryz.prog 58 #[(Value.pointer a0)] [(Sh.one CT.slice)] u K
def C.theodoliteref01_Less (a0_0 : Int) (a0_1 : Int) (a1_0 : Int) (a1_1 : Int) (u : H) (K : Bool → H → Prop) : Prop := ClT Tryz.prog 59 #[(Value.agg #[(Value.int IntKind.u64 a0_0), (Value.int IntKind.u64 a0_1)]), (Value.agg #[(Value.int IntKind.u64 a1_0), (Value.int IntKind.u64 a1_1)])] [(Sh.one CT.bool)] u K
def C.theodoliteref03_Near (a0_0 : Int) (a0_1 : Sl) (a0_2 : Sl) (a0_3 : Int) (a0_4 : Int) (a0_5 : Sl) (a1 : Sl) (u : H) (K : Int → Int → H → Prop) : Prop := ClT Tryz.prog 60 #[(Value.agg #[(Value.int IntKind.i64 a0_0), (Value.slice a0_1.a a0_1.n a0_1.c), (Value.slice a0_2.a a0_2.n a0_2.c), (Value.int IntKind.u64 a0_3), (Value.int IntKind.u64 a0_4), (Value.slice a0_5.a a0_5.n a0_5.c)]), (Value.slice a1.a a1.n a1.c)] [(Sh.agg [(CT.int IntKind.u64), (CT.int IntKind.u64)])] u K
def C.flat_Check (a0 : Sl) (a1 : Int) (u : H) (K : Int → H → Prop) : Prop := ClT Tryz.prog 62 #[(Value.slice a0.a a0.n a0.c), (Value.int IntKind.i64 a1)] [(Sh.one (CT.int IntKind.i64))] u K
def C.theodoliteref03_Id (a0 : Int) (u : H) (K : Bool → H → Prop) : Prop := ClT Tryz.prog 63 #[(Value.int IntKind.i64 a0)] [(Sh.one CT.bool)] u K
def C.theodoliteref03_Check (a0 : Sl) (a1 : Int) (u : H) (K : Int → H → Prop) : Prop := ClT Tryz.prog 64 #[(Value.slice a0.a a0.n a0.c), (Value.int IntKind.i64 a1)] [(Sh.one (CT.int IntKind.i64))] u K
def C.theodoliteref05_find (a0 : Sl) (a1 : Int) (u : H) (K : Int → H → Prop) : Prop := ClT Tryz.prog 65 #[(Value.slice a0.a a0.n a0.c), (Value.int IntKind.i64 a1)] [(Sh.one (CT.int IntKind.i64))] u K
def C.theodoliteref05_Obeys (a0 : Sl) (a1 : Sl) (a2 : Int) (a3 : Int) (a4_0 : Sl) (a4_1 : Sl) (a4_2 : Sl) (u : H) (K : Bool → H → Prop) : Prop := ClT Tryz.prog 67 #[(Value.slice a0.a a0.n a0.c), (Value.slice a1.a a1.n a1.c), (Value.int IntKind.i64 a2), (Value.int IntKind.i64 a3), (Value.agg #[(Value.slice a4_0.a a4_0.n a4_0.c), (Value.slice a4_1.a a4_1.n a4_1.c), (Value.slice a4_2.a a4_2.n a4_2.c)])] [(Sh.one CT.bool)] u K
def C.vec_Check (a0 : Sl) (a1 : Int) (u : H) (K : Int → H → Prop) : Prop := ClT Tryz.prog 69 #[(Value.slice a0.a a0.n a0.c), (Value.int IntKind.i64 a1)] [(Sh.one (CT.int IntKind.i64))] u K
def C.kdtree_Tree__cut_1 (a0 : Sl) (a1 : Addr) (a2 : Addr) (u : H) (K : (Option Addr) → H → Prop) : Prop := ClT Tryz.prog 70 #[(Value.slice a0.a a0.n a0.c), (Value.pointer (some a1)), (Value.pointer (some a2))] [(Sh.one CT.ptr)] u K
def C.vec_Box (a0 : Sl) (a1 : Int) (u : H) (K : Int → Sl → Sl → Int → Int → Sl → Int → H → Prop) : Prop := ClT Tryz.prog 71 #[(Value.slice a0.a a0.n a0.c), (Value.int IntKind.i64 a1)] [(Sh.agg [(CT.int IntKind.i64), CT.slice, CT.slice, (CT.int IntKind.u64), (CT.int IntKind.u64), CT.slice]), (Sh.one (CT.int IntKind.i64))] u K
def C.slices_SortStableFunc__api_Row_ (a0 : Sl) (a1 : Value) (u : H) (K : H → Prop) : Prop := ClT Tryz.prog 72 #[(Value.slice a0.a a0.n a0.c), a1] [] u K
def C.kdtree_Tree__cut_1_1 (a0_0 : Int) (a0_1 : Sl) (a1_0 : Int) (a1_1 : Sl) (a2 : Addr) (u : H) (K : Int → H → Prop) : Prop := ClT Tryz.prog 73 #[(Value.agg #[(Value.int IntKind.i64 a0_0), (Value.slice a0_1.a a0_1.n a0_1.c)]), (Value.agg #[(Value.int IntKind.i64 a1_0), (Value.slice a1_1.a a1_1.n a1_1.c)]), (Value.pointer (some a2))] [(Sh.one (CT.int IntKind.i64))] u K
def C.slices_Clone__api_Row_ (a0 : Sl) (u : H) (K : Sl → H → Prop) : Prop := ClT Tryz.prog 74 #[(Value.slice a0.a a0.n a0.c)] [(Sh.one CT.slice)] u K
def C.vec_both (a0_0 : Int) (a0_1 : Sl) (a0_2 : Sl) (a0_3 : Int) (a0_4 : Int) (a0_5 : Sl) (a1 : Sl) (u : H) (K : Int → H → Prop) : Prop := ClT Tryz.prog 75 #[(Value.agg #[(Value.int IntKind.i64 a0_0), (Value.slice a0_1.a a0_1.n a0_1.c), (Value.slice a0_2.a a0_2.n a0_2.c), (Value.int IntKind.u64 a0_3), (Value.int IntKind.u64 a0_4), (Value.slice a0_5.a a0_5.n a0_5.c)]), (Value.slice a1.a a1.n a1.c)] [(Sh.one (CT.int IntKind.i64))] u K
def C.vec_plus (a0_0 : Int) (a0_1 : Int) (a1 : Int) (a2 : Int) (u : H) (K : Int → Int → H → Prop) : Prop := ClT Tryz.prog 76 #[(Value.agg #[(Value.int IntKind.u64 a0_0), (Value.int IntKind.u64 a0_1)]), (Value.int IntKind.i64 a1), (Value.int IntKind.i64 a2)] [(Sh.agg [(CT.int IntKind.u64), (CT.int IntKind.u64)])] u K
def C.wide_Sqrt (a0_0 : Int) (a0_1 : Int) (u : H) (K : Int → H → Prop) : Prop := ClT Tryz.prog 77 #[(Value.agg #[(Value.int IntKind.u64 a0_0), (Value.int IntKind.u64 a0_1)])] [(Sh.one (CT.int IntKind.u64))] u K
def C.vec_far (a0 : Sl) (a1 : Sl) (u : H) (K : Int → Int → H → Prop) : Prop := ClT Tryz.prog 78 #[(Value.slice a0.a a0.n a0.c), (Value.slice a1.a a1.n a1.c)] [(Sh.agg [(CT.int IntKind.u64), (CT.int IntKind.u64)])] u K
def C.wide_Mul (a0 : Int) (a1 : Int) (u : H) (K : Int → Int → H → Prop) : Prop := ClT Tryz.prog 79 #[(Value.int IntKind.u64 a0), (Value.int IntKind.u64 a1)] [(Sh.agg [(CT.int IntKind.u64), (CT.int IntKind.u64)])] u K
def C.flat_Walk (a0 : Sl) (a1 : Sl) (a2 : Int) (a3 : Int) (u : H) (K : Sl → Sl → Sl → H → Prop) : Prop := ClT Tryz.prog 80 #[(Value.slice a0.a a0.n a0.c), (Value.slice a1.a a1.n a1.c), (Value.int IntKind.i64 a2), (Value.int IntKind.i64 a3)] [(Sh.agg [CT.slice, CT.slice, CT.slice])] u K
def C.slices_SortFunc__api_Row_ (a0 : Sl) (a1 : Value) (u : H) (K : H → Prop) : Prop := ClT Tryz.prog 81 #[(Value.slice a0.a a0.n a0.c), a1] [] u K
def C.flat_Own_1 (a0_0 : Int) (a0_1 : Sl) (a1_0 : Int) (a1_1 : Sl) (u : H) (K : Int → H → Prop) : Prop := ClT Tryz.prog 82 #[(Value.agg #[(Value.int IntKind.i64 a0_0), (Value.slice a0_1.a a0_1.n a0_1.c)]), (Value.agg #[(Value.int IntKind.i64 a1_0), (Value.slice a1_1.a a1_1.n a1_1.c)])] [(Sh.one (CT.int IntKind.i64))] u K
def C.slices_IndexFunc__api_Row_ (a0 : Sl) (a1 : Value) (u : H) (K : Int → H → Prop) : Prop := ClT Tryz.prog 83 #[(Value.slice a0.a a0.n a0.c), a1] [(Sh.one (CT.int IntKind.i64))] u K
def C.flat_hits_1 (a0 : Value) (a1 : Addr) (a2 : Addr) (u : H) (K : H → Prop) : Prop := ClT Tryz.prog 84 #[a0, (Value.pointer (some a1)), (Value.pointer (some a2))] [] u K
def C.vec_Dist (a0 : Sl) (a1 : Sl) (u : H) (K : Int → Int → Int → H → Prop) : Prop := ClT Tryz.prog 85 #[(Value.slice a0.a a0.n a0.c), (Value.slice a1.a a1.n a1.c)] [(Sh.agg [(CT.int IntKind.u64), (CT.int IntKind.u64)]), (Sh.one (CT.int IntKind.i64))] u K
def C.heap_Push (a0 : Value) (a1 : Value) (u : H) (K : H → Prop) : Prop := ClT Tryz.prog 86 #[a0, a1] [] u K
def C.topk_Less (a0_0 : Int) (a0_1 : Int) (a0_2 : Int) (a1_0 : Int) (a1_1 : Int) (a1_2 : Int) (u : H) (K : Bool → H → Prop) : Prop := ClT Tryz.prog 87 #[(Value.agg #[(Value.int IntKind.i64 a0_0), (Value.int IntKind.u64 a0_1), (Value.int IntKind.u64 a0_2)]), (Value.agg #[(Value.int IntKind.i64 a1_0), (Value.int IntKind.u64 a1_1), (Value.int IntKind.u64 a1_2)])] [(Sh.one CT.bool)] u K
def C.heap_Fix (a0 : Value) (a1 : Int) (u : H) (K : H → Prop) : Prop := ClT Tryz.prog 88 #[a0, (Value.int IntKind.i64 a1)] [] u K
def C.slices_Clone__api_Hit_ (a0 : Sl) (u : H) (K : Sl → H → Prop) : Prop := ClT Tryz.prog 89 #[(Value.slice a0.a a0.n a0.c)] [(Sh.one CT.slice)] u K
def C.slices_SortFunc__api_Hit_ (a0 : Sl) (a1 : Value) (u : H) (K : H → Prop) : Prop := ClT Tryz.prog 90 #[(Value.slice a0.a a0.n a0.c), a1] [] u K
def C.topk_compare (a0_0 : Int) (a0_1 : Int) (a0_2 : Int) (a1_0 : Int) (a1_1 : Int) (a1_2 : Int) (u : H) (K : Int → H → Prop) : Prop := ClT Tryz.prog 91 #[(Value.agg #[(Value.int IntKind.i64 a0_0), (Value.int IntKind.u64 a0_1), (Value.int IntKind.u64 a0_2)]), (Value.agg #[(Value.int IntKind.i64 a1_0), (Value.int IntKind.u64 a1_1), (Value.int IntKind.u64 a1_2)])] [(Sh.one (CT.int IntKind.i64))] u K
def C.theodoliteref01_Cmp (a0_0 : Int) (a0_1 : Int) (a0_2 : Int) (a0_3 : Int) (a0_4 : Int) (a0_5 : Int) (a0_6 : Int) (a0_7 : Int) (a0_8 : Bool) (a1_0 : Int) (a1_1 : Int) (a1_2 : Int) (a1_3 : Int) (a1_4 : Int) (a1_5 : Int) (a1_6 : Int) (a1_7 : Int) (a1_8 : Bool) (u : H) (K : Int → H → Prop) : Prop := ClT Tryz.prog 92 #[(Value.agg #[(Value.int IntKind.i64 a0_0), (Value.int IntKind.i64 a0_1), (Value.int IntKind.i64 a0_2), (Value.int IntKind.i64 a0_3), (Value.int IntKind.i64 a0_4), (Value.int IntKind.i64 a0_5), (Value.int IntKind.i64 a0_6), (Value.int IntKind.i64 a0_7), (Value.bool a0_8)]), (Value.agg #[(Value.int IntKind.i64 a1_0), (Value.int IntKind.i64 a1_1), (Value.int IntKind.i64 a1_2), (Value.int IntKind.i64 a1_3), (Value.int IntKind.i64 a1_4), (Value.int IntKind.i64 a1_5), (Value.int IntKind.i64 a1_6), (Value.int IntKind.i64 a1_7), (Value.bool a1_8)])] [(Sh.one (CT.int IntKind.i64))] u K
def C.theodoliteref01_Of (a0_0 : Int) (a0_1 : Int) (u : H) (K : Int → Int → Int → Int → Int → Int → Int → Int → Bool → H → Prop) : Prop := ClT Tryz.prog 93 #[(Value.agg #[(Value.int IntKind.u64 a0_0), (Value.int IntKind.u64 a0_1)])] [(Sh.agg [(CT.int IntKind.i64), (CT.int IntKind.i64), (CT.int IntKind.i64), (CT.int IntKind.i64), (CT.int IntKind.i64), (CT.int IntKind.i64), (CT.int IntKind.i64), (CT.int IntKind.i64), CT.bool])] u K
def C.theodoliteref03_Sum (a0_0 : Int) (a0_1 : Int) (a1_0 : Int) (a1_1 : Int) (u : H) (K : Int → Int → H → Prop) : Prop := ClT Tryz.prog 94 #[(Value.agg #[(Value.int IntKind.u64 a0_0), (Value.int IntKind.u64 a0_1)]), (Value.agg #[(Value.int IntKind.u64 a1_0), (Value.int IntKind.u64 a1_1)])] [(Sh.agg [(CT.int IntKind.u64), (CT.int IntKind.u64)])] u K
def C.theodoliteref03_Square (a0 : Int) (u : H) (K : Int → Int → H → Prop) : Prop := ClT Tryz.prog 95 #[(Value.int IntKind.i64 a0)] [(Sh.agg [(CT.int IntKind.u64), (CT.int IntKind.u64)])] u K
def C.theodoliteref03_Root (a0_0 : Int) (a0_1 : Int) (u : H) (K : Int → H → Prop) : Prop := ClT Tryz.prog 96 #[(Value.agg #[(Value.int IntKind.u64 a0_0), (Value.int IntKind.u64 a0_1)])] [(Sh.one (CT.int IntKind.u64))] u K
def C.theodoliteref03_Far (a0 : Sl) (a1 : Sl) (u : H) (K : Int → Int → H → Prop) : Prop := ClT Tryz.prog 97 #[(Value.slice a0.a a0.n a0.c), (Value.slice a1.a a1.n a1.c)] [(Sh.agg [(CT.int IntKind.u64), (CT.int IntKind.u64)])] u K
def C.theodoliteref01_Mul (a0 : Int) (a1 : Int) (u : H) (K : Int → Int → H → Prop) : Prop := ClT Tryz.prog 98 #[(Value.int IntKind.u64 a0), (Value.int IntKind.u64 a1)] [(Sh.agg [(CT.int IntKind.u64), (CT.int IntKind.u64)])] u K
def C.theodoliteref05_Sound (a0 : Sl) (a1 : Sl) (a2 : Int) (a3_0 : Sl) (a3_1 : Sl) (a3_2 : Sl) (u : H) (K : Bool → H → Prop) : Prop := ClT Tryz.prog 99 #[(Value.slice a0.a a0.n a0.c), (Value.slice a1.a a1.n a1.c), (Value.int IntKind.i64 a2), (Value.agg #[(Value.slice a3_0.a a3_0.n a3_0.c), (Value.slice a3_1.a a3_1.n a3_1.c), (Value.slice a3_2.a a3_2.n a3_2.c)])] [(Sh.one CT.bool)] u K
def C.vec_dim (a0 : Int) (u : H) (K : Bool → H → Prop) : Prop := ClT Tryz.prog 100 #[(Value.int IntKind.i64 a0)] [(Sh.one CT.bool)] u K
def C.vec_ids (a0 : Sl) (a1 : Int) (u : H) (K : Sl → Int → H → Prop) : Prop := ClT Tryz.prog 101 #[(Value.slice a0.a a0.n a0.c), (Value.int IntKind.i64 a1)] [(Sh.one CT.slice), (Sh.one (CT.int IntKind.i64))] u K
def C.slices_stableCmpFunc_api_Row_ (a0 : Sl) (a1 : Int) (a2 : Value) (u : H) (K : H → Prop) : Prop := ClT Tryz.prog 102 #[(Value.slice a0.a a0.n a0.c), (Value.int IntKind.i64 a1), a2] [] u K
def C.vec_CheckRegion (a0_0 : Int) (a0_1 : Sl) (a0_2 : Sl) (a0_3 : Int) (a0_4 : Int) (a0_5 : Sl) (a1 : Int) (u : H) (K : Int → H → Prop) : Prop := ClT Tryz.prog 103 #[(Value.agg #[(Value.int IntKind.i64 a0_0), (Value.slice a0_1.a a0_1.n a0_1.c), (Value.slice a0_2.a a0_2.n a0_2.c), (Value.int IntKind.u64 a0_3), (Value.int IntKind.u64 a0_4), (Value.slice a0_5.a a0_5.n a0_5.c)]), (Value.int IntKind.i64 a1)] [(Sh.one (CT.int IntKind.i64))] u K
def C.wide_Add (a0_0 : Int) (a0_1 : Int) (a1_0 : Int) (a1_1 : Int) (u : H) (K : Int → Int → Int → H → Prop) : Prop := ClT Tryz.prog 104 #[(Value.agg #[(Value.int IntKind.u64 a0_0), (Value.int IntKind.u64 a0_1)]), (Value.agg #[(Value.int IntKind.u64 a1_0), (Value.int IntKind.u64 a1_1)])] [(Sh.agg [(CT.int IntKind.u64), (CT.int IntKind.u64)]), (Sh.one (CT.int IntKind.i64))] u K
def C.wide_Cmp (a0_0 : Int) (a0_1 : Int) (a1_0 : Int) (a1_1 : Int) (u : H) (K : Int → H → Prop) : Prop := ClT Tryz.prog 105 #[(Value.agg #[(Value.int IntKind.u64 a0_0), (Value.int IntKind.u64 a0_1)]), (Value.agg #[(Value.int IntKind.u64 a1_0), (Value.int IntKind.u64 a1_1)])] [(Sh.one (CT.int IntKind.i64))] u K
def C.bits_Mul64 (a0 : Int) (a1 : Int) (u : H) (K : Int → Int → H → Prop) : Prop := ClT Tryz.prog 106 #[(Value.int IntKind.u64 a0), (Value.int IntKind.u64 a1)] [(Sh.one (CT.int IntKind.u64)), (Sh.one (CT.int IntKind.u64))] u K
def C.flat_Walk_1 (a0 : (Option Addr)) (a1 : Addr) (a2 : Addr) (u : H) (K : H → Prop) : Prop := ClT Tryz.prog 107 #[(Value.pointer a0), (Value.pointer (some a1)), (Value.pointer (some a2))] [] u K
def C.flat_Walk_2 (a0_0 : Int) (a0_1 : Int) (a1 : Addr) (u : H) (K : Bool → H → Prop) : Prop := ClT Tryz.prog 108 #[(Value.agg #[(Value.int IntKind.u64 a0_0), (Value.int IntKind.u64 a0_1)]), (Value.pointer (some a1))] [(Sh.one CT.bool)] u K
def C.topk_Heap__Worst (a0 : (Option Addr)) (u : H) (K : Int → Int → Int → Bool → H → Prop) : Prop := ClT Tryz.prog 109 #[(Value.pointer a0)] [(Sh.agg [(CT.int IntKind.i64), (CT.int IntKind.u64), (CT.int IntKind.u64)]), (Sh.one CT.bool)] u K
def C.topk_Heap__Full (a0 : (Option Addr)) (u : H) (K : Bool → H → Prop) : Prop := ClT Tryz.prog 110 #[(Value.pointer a0)] [(Sh.one CT.bool)] u K
def C.flat_queue__Len (a0 : Sl) (u : H) (K : Int → H → Prop) : Prop := ClT Tryz.prog 111 #[(Value.slice a0.a a0.n a0.c)] [(Sh.one (CT.int IntKind.i64))] u K
def C.heap_Pop (a0 : Value) (u : H) (K : Value → H → Prop) : Prop := ClT Tryz.prog 112 #[a0] [(Sh.one CT.val)] u K
def C.flat_region (a0_0 : Int) (a0_1 : Sl) (a0_2 : Sl) (a0_3 : Int) (a0_4 : Int) (a0_5 : Sl) (a1 : Sl) (u : H) (K : Int → Sl → Sl → Int → Int → Sl → H → Prop) : Prop := ClT Tryz.prog 113 #[(Value.agg #[(Value.int IntKind.i64 a0_0), (Value.slice a0_1.a a0_1.n a0_1.c), (Value.slice a0_2.a a0_2.n a0_2.c), (Value.int IntKind.u64 a0_3), (Value.int IntKind.u64 a0_4), (Value.slice a0_5.a a0_5.n a0_5.c)]), (Value.slice a1.a a1.n a1.c)] [(Sh.agg [(CT.int IntKind.i64), CT.slice, CT.slice, (CT.int IntKind.u64), (CT.int IntKind.u64), CT.slice])] u K
def C.flat_Part__All (a0 : (Option Addr)) (u : H) (K : Sl → H → Prop) : Prop := ClT Tryz.prog 114 #[(Value.pointer a0)] [(Sh.one CT.slice)] u K
def C.slices_Sort___int_int_ (a0 : Sl) (u : H) (K : H → Prop) : Prop := ClT Tryz.prog 115 #[(Value.slice a0.a a0.n a0.c)] [] u K
def C.heap_up (a0 : Value) (a1 : Int) (u : H) (K : H → Prop) : Prop := ClT Tryz.prog 118 #[a0, (Value.int IntKind.i64 a1)] [] u K
def C.heap_down (a0 : Value) (a1 : Int) (a2 : Int) (u : H) (K : Bool → H → Prop) : Prop := ClT Tryz.prog 119 #[a0, (Value.int IntKind.i64 a1), (Value.int IntKind.i64 a2)] [(Sh.one CT.bool)] u K
def C.cmp_Or_int_ (a0 : Sl) (u : H) (K : Int → H → Prop) : Prop := ClT Tryz.prog 121 #[(Value.slice a0.a a0.n a0.c)] [(Sh.one (CT.int IntKind.i64))] u K
def C.cmp_Compare_int_ (a0 : Int) (a1 : Int) (u : H) (K : Int → H → Prop) : Prop := ClT Tryz.prog 122 #[(Value.int IntKind.i64 a0), (Value.int IntKind.i64 a1)] [(Sh.one (CT.int IntKind.i64))] u K
def C.theodoliteref01_Num__Times (a0_0 : Int) (a0_1 : Int) (a0_2 : Int) (a0_3 : Int) (a0_4 : Int) (a0_5 : Int) (a0_6 : Int) (a0_7 : Int) (a0_8 : Bool) (a1_0 : Int) (a1_1 : Int) (a1_2 : Int) (a1_3 : Int) (a1_4 : Int) (a1_5 : Int) (a1_6 : Int) (a1_7 : Int) (a1_8 : Bool) (u : H) (K : Int → Int → Int → Int → Int → Int → Int → Int → Bool → H → Prop) : Prop := ClT Tryz.prog 123 #[(Value.agg #[(Value.int IntKind.i64 a0_0), (Value.int IntKind.i64 a0_1), (Value.int IntKind.i64 a0_2), (Value.int IntKind.i64 a0_3), (Value.int IntKind.i64 a0_4), (Value.int IntKind.i64 a0_5), (Value.int IntKind.i64 a0_6), (Value.int IntKind.i64 a0_7), (Value.bool a0_8)]), (Value.agg #[(Value.int IntKind.i64 a1_0), (Value.int IntKind.i64 a1_1), (Value.int IntKind.i64 a1_2), (Value.int IntKind.i64 a1_3), (Value.int IntKind.i64 a1_4), (Value.int IntKind.i64 a1_5), (Value.int IntKind.i64 a1_6), (Value.int IntKind.i64 a1_7), (Value.bool a1_8)])] [(Sh.agg [(CT.int IntKind.i64), (CT.int IntKind.i64), (CT.int IntKind.i64), (CT.int IntKind.i64), (CT.int IntKind.i64), (CT.int IntKind.i64), (CT.int IntKind.i64), (CT.int IntKind.i64), CT.bool])] u K
def C.theodoliteref01_Num__Wide (a0_0 : Int) (a0_1 : Int) (a0_2 : Int) (a0_3 : Int) (a0_4 : Int) (a0_5 : Int) (a0_6 : Int) (a0_7 : Int) (a0_8 : Bool) (u : H) (K : Int → Int → H → Prop) : Prop := ClT Tryz.prog 124 #[(Value.agg #[(Value.int IntKind.i64 a0_0), (Value.int IntKind.i64 a0_1), (Value.int IntKind.i64 a0_2), (Value.int IntKind.i64 a0_3), (Value.int IntKind.i64 a0_4), (Value.int IntKind.i64 a0_5), (Value.int IntKind.i64 a0_6), (Value.int IntKind.i64 a0_7), (Value.bool a0_8)])] [(Sh.agg [(CT.int IntKind.u64), (CT.int IntKind.u64)])] u K
def C.theodoliteref03_With (a0 : Sl) (a1 : Int) (u : H) (K : Sl → H → Prop) : Prop := ClT Tryz.prog 125 #[(Value.slice a0.a a0.n a0.c), (Value.int IntKind.i64 a1)] [(Sh.one CT.slice)] u K
def C.theodoliteref05_region (a0 : Sl) (a1_0 : Int) (a1_1 : Sl) (a1_2 : Sl) (a1_3 : Int) (a1_4 : Int) (a1_5 : Sl) (a2 : Int) (u : H) (K : Bool → H → Prop) : Prop := ClT Tryz.prog 126 #[(Value.slice a0.a a0.n a0.c), (Value.agg #[(Value.int IntKind.i64 a1_0), (Value.slice a1_1.a a1_1.n a1_1.c), (Value.slice a1_2.a a1_2.n a1_2.c), (Value.int IntKind.u64 a1_3), (Value.int IntKind.u64 a1_4), (Value.slice a1_5.a a1_5.n a1_5.c)]), (Value.int IntKind.i64 a2)] [(Sh.one CT.bool)] u K
def C.theodoliteref05_First (a0 : Sl) (a1 : Int) (u : H) (K : Sl → H → Prop) : Prop := ClT Tryz.prog 127 #[(Value.slice a0.a a0.n a0.c), (Value.int IntKind.i64 a1)] [(Sh.one CT.slice)] u K
def C.theodoliteref05_Hits (a0 : Sl) (a1 : Sl) (u : H) (K : Sl → H → Prop) : Prop := ClT Tryz.prog 128 #[(Value.slice a0.a a0.n a0.c), (Value.slice a1.a a1.n a1.c)] [(Sh.one CT.slice)] u K
def C.theodoliteref03_Ints (a0 : Sl) (a1 : Sl) (u : H) (K : Bool → H → Prop) : Prop := ClT Tryz.prog 129 #[(Value.slice a0.a a0.n a0.c), (Value.slice a1.a a1.n a1.c)] [(Sh.one CT.bool)] u K
def C.theodoliteref03_Ids (a0 : Sl) (u : H) (K : Sl → H → Prop) : Prop := ClT Tryz.prog 130 #[(Value.slice a0.a a0.n a0.c)] [(Sh.one CT.slice)] u K
def C.slices_insertionSortCmpFunc_api_Row_ (a0 : Sl) (a1 : Int) (a2 : Int) (a3 : Value) (u : H) (K : H → Prop) : Prop := ClT Tryz.prog 131 #[(Value.slice a0.a a0.n a0.c), (Value.int IntKind.i64 a1), (Value.int IntKind.i64 a2), a3] [] u K
def C.slices_symMergeCmpFunc_api_Row_ (a0 : Sl) (a1 : Int) (a2 : Int) (a3 : Int) (a4 : Value) (u : H) (K : H → Prop) : Prop := ClT Tryz.prog 132 #[(Value.slice a0.a a0.n a0.c), (Value.int IntKind.i64 a1), (Value.int IntKind.i64 a2), (Value.int IntKind.i64 a3), a4] [] u K
def C.topk_Heap__Len (a0 : (Option Addr)) (u : H) (K : Int → H → Prop) : Prop := ClT Tryz.prog 134 #[(Value.pointer a0)] [(Sh.one (CT.int IntKind.i64))] u K
def C.cmp_isNaN_int_ (a0 : Int) (u : H) (K : Bool → H → Prop) : Prop := ClT Tryz.prog 153 #[(Value.int IntKind.i64 a0)] [(Sh.one CT.bool)] u K
def C.theodoliteref01_Num__plus (a0_0 : Int) (a0_1 : Int) (a0_2 : Int) (a0_3 : Int) (a0_4 : Int) (a0_5 : Int) (a0_6 : Int) (a0_7 : Int) (a0_8 : Bool) (a1 : Int) (a2 : Int) (u : H) (K : Int → Int → Int → Int → Int → Int → Int → Int → Bool → H → Prop) : Prop := ClT Tryz.prog 154 #[(Value.agg #[(Value.int IntKind.i64 a0_0), (Value.int IntKind.i64 a0_1), (Value.int IntKind.i64 a0_2), (Value.int IntKind.i64 a0_3), (Value.int IntKind.i64 a0_4), (Value.int IntKind.i64 a0_5), (Value.int IntKind.i64 a0_6), (Value.int IntKind.i64 a0_7), (Value.bool a0_8)]), (Value.int IntKind.i64 a1), (Value.int IntKind.i64 a2)] [(Sh.agg [(CT.int IntKind.i64), (CT.int IntKind.i64), (CT.int IntKind.i64), (CT.int IntKind.i64), (CT.int IntKind.i64), (CT.int IntKind.i64), (CT.int IntKind.i64), (CT.int IntKind.i64), CT.bool])] u K
def C.theodoliteref03_CheckRegion (a0_0 : Int) (a0_1 : Sl) (a0_2 : Sl) (a0_3 : Int) (a0_4 : Int) (a0_5 : Sl) (a1 : Int) (u : H) (K : Int → H → Prop) : Prop := ClT Tryz.prog 155 #[(Value.agg #[(Value.int IntKind.i64 a0_0), (Value.slice a0_1.a a0_1.n a0_1.c), (Value.slice a0_2.a a0_2.n a0_2.c), (Value.int IntKind.u64 a0_3), (Value.int IntKind.u64 a0_4), (Value.slice a0_5.a a0_5.n a0_5.c)]), (Value.int IntKind.i64 a1)] [(Sh.one (CT.int IntKind.i64))] u K
def C.theodoliteref03_In (a0_0 : Int) (a0_1 : Sl) (a0_2 : Sl) (a0_3 : Int) (a0_4 : Int) (a0_5 : Sl) (a1 : Sl) (u : H) (K : Bool → H → Prop) : Prop := ClT Tryz.prog 156 #[(Value.agg #[(Value.int IntKind.i64 a0_0), (Value.slice a0_1.a a0_1.n a0_1.c), (Value.slice a0_2.a a0_2.n a0_2.c), (Value.int IntKind.u64 a0_3), (Value.int IntKind.u64 a0_4), (Value.slice a0_5.a a0_5.n a0_5.c)]), (Value.slice a1.a a1.n a1.c)] [(Sh.one CT.bool)] u K
def C.theodoliteref05_Before (a0_0 : Int) (a0_1 : Int) (a0_2 : Int) (a1_0 : Int) (a1_1 : Int) (a1_2 : Int) (u : H) (K : Bool → H → Prop) : Prop := ClT Tryz.prog 157 #[(Value.agg #[(Value.int IntKind.i64 a0_0), (Value.int IntKind.u64 a0_1), (Value.int IntKind.u64 a0_2)]), (Value.agg #[(Value.int IntKind.i64 a1_0), (Value.int IntKind.u64 a1_1), (Value.int IntKind.u64 a1_2)])] [(Sh.one CT.bool)] u K
def C.slices_rotateCmpFunc_api_Row_ (a0 : Sl) (a1 : Int) (a2 : Int) (a3 : Int) (a4 : Value) (u : H) (K : H → Prop) : Prop := ClT Tryz.prog 158 #[(Value.slice a0.a a0.n a0.c), (Value.int IntKind.i64 a1), (Value.int IntKind.i64 a2), (Value.int IntKind.i64 a3), a4] [] u K
def C.theodoliteref03_form (a0_0 : Int) (a0_1 : Sl) (a0_2 : Sl) (a0_3 : Int) (a0_4 : Int) (a0_5 : Sl) (u : H) (K : Bool → H → Prop) : Prop := ClT Tryz.prog 176 #[(Value.agg #[(Value.int IntKind.i64 a0_0), (Value.slice a0_1.a a0_1.n a0_1.c), (Value.slice a0_2.a a0_2.n a0_2.c), (Value.int IntKind.u64 a0_3), (Value.int IntKind.u64 a0_4), (Value.slice a0_5.a a0_5.n a0_5.c)])] [(Sh.one CT.bool)] u K
def C.theodoliteref03_ids (a0 : Sl) (u : H) (K : Bool → H → Prop) : Prop := ClT Tryz.prog 177 #[(Value.slice a0.a a0.n a0.c)] [(Sh.one CT.bool)] u K
def C.slices_swapRangeCmpFunc_api_Row_ (a0 : Sl) (a1 : Int) (a2 : Int) (a3 : Int) (a4 : Value) (u : H) (K : H → Prop) : Prop := ClT Tryz.prog 178 #[(Value.slice a0.a a0.n a0.c), (Value.int IntKind.i64 a1), (Value.int IntKind.i64 a2), (Value.int IntKind.i64 a3), a4] [] u K
def C.topk_hits__Len (a0 : Sl) (u : H) (K : Int → H → Prop) : Prop := ClT Tryz.prog 202 #[(Value.slice a0.a a0.n a0.c)] [(Sh.one (CT.int IntKind.i64))] u K
def C.topk_hits__Less (a0 : Sl) (a1 : Int) (a2 : Int) (u : H) (K : Bool → H → Prop) : Prop := ClT Tryz.prog 203 #[(Value.slice a0.a a0.n a0.c), (Value.int IntKind.i64 a1), (Value.int IntKind.i64 a2)] [(Sh.one CT.bool)] u K
def C.topk_hits__Swap (a0 : Sl) (a1 : Int) (a2 : Int) (u : H) (K : H → Prop) : Prop := ClT Tryz.prog 204 #[(Value.slice a0.a a0.n a0.c), (Value.int IntKind.i64 a1), (Value.int IntKind.i64 a2)] [] u K
def C.topk_hits__Push (a0 : (Option Addr)) (a1 : Value) (u : H) (K : H → Prop) : Prop := ClT Tryz.prog 206 #[(Value.pointer a0), a1] [] u K
def C.flat_queue__Less (a0 : Sl) (a1 : Int) (a2 : Int) (u : H) (K : Bool → H → Prop) : Prop := ClT Tryz.prog 207 #[(Value.slice a0.a a0.n a0.c), (Value.int IntKind.i64 a1), (Value.int IntKind.i64 a2)] [(Sh.one CT.bool)] u K
def C.flat_queue__Swap (a0 : Sl) (a1 : Int) (a2 : Int) (u : H) (K : H → Prop) : Prop := ClT Tryz.prog 208 #[(Value.slice a0.a a0.n a0.c), (Value.int IntKind.i64 a1), (Value.int IntKind.i64 a2)] [] u K
def C.flat_queue__Pop (a0 : (Option Addr)) (u : H) (K : Value → H → Prop) : Prop := ClT Tryz.prog 209 #[(Value.pointer a0)] [(Sh.one CT.val)] u K
def C.flat_queue__Push (a0 : (Option Addr)) (a1 : Value) (u : H) (K : H → Prop) : Prop := ClT Tryz.prog 210 #[(Value.pointer a0), a1] [] u K
end Go.Proofs.YtncninpdlpemgaaGreat

/- VcUser -/
namespace Go.Proofs.YtncninpdlpemgaaGreat

theorem InR.of {x : Int} (h1 : -9223372036854775808 ≤ x) (h2 : x ≤ 9223372036854775807) : InR x := ⟨h1, h2⟩

theorem H.cell?_mono {u u' : H} (h : u.le u') {a : Addr} {v : Value} (e : u.cell? a = some v) : u'.cell? a = some v := by
  unfold H.cell? at e ⊢
  split at e
  · rename_i c t f hb
    rw [h _ _ hb]
    exact e
  · cases e

/-- An answer that leaves the world alone. -/
theorem SemT.pure {P : Program} {m : Sem Value} {ss : List Sh} {u : H} {K : Cur (ctsOf ss) (H → Prop)} (vs : List Value) (h : ∀ w, Sub u w → m.run P w = .ok (encRes ss vs) w)
    (hk : Kinds (ctsOf ss) vs) (hK : unC (ctsOf ss) K vs fun r => r u) : SemT P m ss u K :=
  fun w hw => ⟨_, w, u, h w hw, ⟨vs, hk, rfl, hK⟩, Step.refl hw⟩

/-- Cells of a slice's elements, each of so many cells. -/
structure Seg (u : H) (s : Sl) (size : Nat) (xs : List Value) : Prop where
  len : xs.length = s.n * size
  cap : s.n ≤ s.c
  max : s.c ≤ 9223372036854775807
  at' : xs = [] ∨ ∃ p, s.a = some p ∧ ∀ i v, xs[i]? = some v → u.cell? (p.add i) = some v

theorem Seg.mono {u u' : H} {s : Sl} {size : Nat} {xs : List Value} (h : Seg u s size xs) (k : u.le u') : Seg u' s size xs :=
  ⟨h.len, h.cap, h.max, h.at'.imp id fun ⟨p, h1, h2⟩ => ⟨p, h1, fun i v e => H.cell?_mono k (h2 i v e)⟩⟩

theorem Seg.get {u : H} {s : Sl} {size : Nat} {xs : List Value} (h : Seg u s size xs) {i : Nat} (hi : i < xs.length) : ∃ p, s.a = some p ∧ ∀ i v, xs[i]? = some v → u.cell? (p.add i) = some v := by
  rcases h.at' with h | h
  · subst h; simp at hi
  · exact h

/-- A slice of ints. -/
def Ints (u : H) (s : Sl) (l : List Int) : Prop := Seg u s 1 (l.map fun x => .int .i64 x)

theorem Ints.mono {u u' : H} {s : Sl} {l : List Int} (h : Ints u s l) (k : u.le u') : Ints u' s l := Seg.mono h k
theorem Ints.len {u : H} {s : Sl} {l : List Int} (h : Ints u s l) : s.n = l.length := by
  have := Seg.len h; simp at this; exact this.symm
theorem Ints.max {u : H} {s : Sl} {l : List Int} (h : Ints u s l) : s.n ≤ 9223372036854775807 := Nat.le_trans (Seg.cap h) (Seg.max h)

/-- An element read through the formula's own words. -/
theorem Ints.read {u : H} {s : Sl} {l : List Int} (h : Ints u s l) {x : Int} (h0 : 0 ≤ x) (h1 : x < (s.n : Int)) :
    ∃ p, s.a = some p ∧ ∃ (hl : x.toNat < l.length), u.cell? (p.add (x.toNat * 1)) = some (.int .i64 l[x.toNat]) := by
  have hn := h.len
  have hlt : x.toNat < l.length := by omega
  obtain ⟨p, hp, hc⟩ := Seg.get h (i := x.toNat) (by simpa using hlt)
  refine ⟨p, hp, hlt, ?_⟩
  rw [Nat.mul_one]
  exact hc _ _ (by simp [hlt])

/-- The same, the element by its number. -/
theorem Ints.at {u : H} {s : Sl} {l : List Int} (h : Ints u s l) {x : Int} (h0 : 0 ≤ x) (h1 : x < (s.n : Int)) : ∃ p, s.a = some p ∧ u.cell? (p.add (x.toNat * 1)) = some (.int .i64 (l.getD x.toNat 0)) := by
  obtain ⟨p, hp, hl, hc⟩ := h.read h0 h1
  exact ⟨p, hp, by rw [hc]; simp [hl]⟩

end Go.Proofs.YtncninpdlpemgaaGreat

/- VcSem -/
namespace Go.Proofs.YtncninpdlpemgaaGreat

theorem Step.newKnown {u : H} {w : World} (hw : Sub u w) (o : Obj) : Step u [] w (u.ins w.heap.size o) [] (w.alloc o) :=
  (Fits.newKnown (s := { n := 0, env := [], loc := [] }) (a := { tmps := #[], defers := [] }) (bs := []) (w := w) ⟨⟨rfl, rfl, fun _ h => by cases h⟩, rfl, fun _ _ h => by simp at h, by simp, by simp, hw⟩ o).2

/-- One answer of one kind. -/
theorem SemT.one {P : Program} {m : Sem Value} {c : CT} {u : H} {K : c.den → H → Prop}
    (h : ∀ w, Sub u w → ∃ x w' u', m.run P w = .ok (c.enc x) w' ∧ K x u' ∧ Step u [] w u' [] w') : SemT P m [.one c] u K := by
  intro w hw
  obtain ⟨x, w', u', h1, h2, h3⟩ := h w hw
  exact ⟨_, w', u', h1, ⟨[c.enc x], .cons x .nil, rfl, (CT.un_enc c x _).2 h2⟩, h3⟩

/-- An answer that leaves the world alone, of one kind. -/
theorem SemT.one' {P : Program} {m : Sem Value} {c : CT} {u : H} {K : c.den → H → Prop} (x : c.den) (h : ∀ w, Sub u w → m.run P w = .ok (c.enc x) w) (hK : K x u) : SemT P m [.one c] u K :=
  .one fun w hw => ⟨x, w, u, h w hw, hK, Step.refl hw⟩

/-- A slice type's element: its type, cells, bytes, zero. -/
def elemT (P : Program) (t : TypeId) : Option (TypeId × Nat × Nat × List Value) :=
  match P.underlying t with
  | some (.slice e) => match P.info? e with
    | some i => match i.zero with
      | some z => match Nat.beq z.cells.size i.size with
        | true => some (e, i.size, i.bytes, z.cells.toList)
        | false => none
      | none => none
    | none => none
  | _ => none

theorem elemT_spec {P : Program} {t e : TypeId} {size bytes : Nat} {zs : List Value} (h : elemT P t = some (e, size, bytes, zs)) :
    P.underlying t = some (.slice e) ∧ ∃ i z, P.info? e = some i ∧ i.zero = some z ∧ i.size = size ∧ i.bytes = bytes ∧ z.cells.size = size ∧ z.cells.toList = zs := by
  unfold elemT at h
  split at h
  · rename_i e' hu
    split at h
    · rename_i i hi
      split at h
      · rename_i z hz
        split at h
        · rename_i hb
          cases h
          exact ⟨hu, i, z, hi, hz, rfl, rfl, Nat.eq_of_beq_eq_true hb, rfl⟩
        · cases h
      · cases h
    · cases h
  · cases h

def Sl.blk (s : Sl) : Option Nat := s.a.map (·.block)

/-- A slice that has a whole block for itself. -/
structure Own (u : H) (e size : Nat) (s : Sl) (xs : List Value) : Prop where
  len : xs.length = s.n * size
  is : (s = ⟨none, 0, 0⟩) ∨ ∃ g cur, s.a = some ⟨g, 0, none⟩ ∧ u g = some (.cells cur e (0, 0)) ∧ s.n ≤ s.c ∧ s.c ≤ 9223372036854775807 ∧ cur.size = s.c * size ∧ cur.toList.take (s.n * size) = xs

theorem maxLen_eq : maxLen = 9223372036854775807 := by decide

theorem H.cell?_ins (u : H) (g : Nat) (c : Array Value) (e : TypeId) (fz : Nat × Nat) (i : Nat) : (u.ins g (.cells c e fz)).cell? ⟨g, i, none⟩ = c[i]? := by
  simp [H.cell?, H.ins]

theorem H.cell?_of {u : H} {g : Nat} {c : Array Value} {e : TypeId} {fz : Nat × Nat} (h : u g = some (.cells c e fz)) (i : Nat) : u.cell? ⟨g, i, none⟩ = c[i]? := by
  simp [H.cell?, h]

theorem Own.seg {u : H} {e size : Nat} {s : Sl} {xs : List Value} (h : Own u e size s xs) : Seg u s size xs := by
  rcases h.is with h1 | ⟨g, cur, ha, hg, hn, hc, hs, ht⟩
  · subst h1
    refine ⟨h.len, by simp, by simp, .inl ?_⟩
    have := h.len
    simpa using this
  · refine ⟨h.len, hn, hc, .inr ⟨_, ha, fun i v e => ?_⟩⟩
    rw [Addr.add_lit, Nat.zero_add, H.cell?_of hg]
    rw [← ht] at e
    rw [List.getElem?_take] at e
    split at e
    · simpa using e
    · cases e

theorem Own.le {u u' : H} {e size : Nat} {s : Sl} {xs : List Value} (h : Own u e size s xs) (k : ∀ b o, s.blk = some b → u b = some o → u' b = some o) : Own u' e size s xs :=
  ⟨h.len, h.is.imp id fun ⟨g, cur, ha, hg, r⟩ => ⟨g, cur, ha, k g _ (by simp [Sl.blk, ha]) hg, r⟩⟩

theorem Own.nil (u : H) (e size : Nat) : Own u e size ⟨none, 0, 0⟩ [] := ⟨by simp, .inl rfl⟩

/-- How what is known turns where a slice is appended to. -/
structure Grew (u u' : H) (s s' : Sl) : Prop where
  rest : ∀ b o, u b = some o → s.blk ≠ some b → u' b = some o
  blk : s'.blk = s.blk ∨ ∃ g, s'.blk = some g ∧ u g = none

theorem Grew.le {u0 u u' : H} {s s' : Sl} (h : Grew u u' s s') (k : u0.le u) (hs : ∀ g, s.blk = some g → u0 g = none) : u0.le u' := by
  intro b o e
  refine h.rest b o (k b o e) fun hb => ?_
  rw [hs b hb] at e; cases e

theorem Grew.out {u0 u u' : H} {s s' : Sl} (h : Grew u u' s s') (k : u0.le u) (hs : ∀ g, s.blk = some g → u0 g = none) : ∀ g, s'.blk = some g → u0 g = none := by
  intro g hg
  rcases h.blk with e | ⟨g', e, hn⟩
  · exact hs g (by rw [← e]; exact hg)
  · rw [e] at hg; cases hg
    cases hx : u0 g with
    | none => rfl
    | some o => rw [k _ _ hx] at hn; cases hn

theorem step_new {u : H} {w : World} (hw : Sub u w) (o : Obj) : Step u [] w (u.ins w.heap.size o) [] (w.drew.alloc o) ∧ u w.heap.size = none :=
  ⟨(Step.draws hw (Nat.le_succ w.drawn)).trans (Step.newKnown (w := w.drew) hw o), hw.none (Nat.le_refl _)⟩

theorem step_row {u : H} {w : World} (hw : Sub u w) {g : Nat} {cur : Array Value} {e : TypeId} (hg : u g = some (.cells cur e (0, 0))) (cs : Array Value) :
    Step u [] w (u.ins g (.cells cs e (0, 0))) [] (w.setRow g cs) := by
  have hgw := hw _ _ hg
  have hs : (w.setRow g cs).heap.size = w.heap.size := by simp [World.setRow]
  refine ⟨fun b o h => ?_, rfl, rfl, rfl, Nat.le_refl _, by rw [hs]; exact Nat.le_refl _, fun b _ hb _ => ?_, fun b _ hb => ?_, [], by simp, by simp⟩
  · unfold H.ins at h
    split at h
    · rename_i hbg; subst hbg; cases h; exact setRow_heap w b cur cs e (0, 0) hgw
    · rename_i hbg; rw [setRow_other w g b cs hbg]; exact hw b o h
  · have : b ≠ g := fun h => by rw [h, hg] at hb; cases hb
    exact setRow_other w g b cs this
  · have : b ≠ g := fun h => by rw [h, hg] at hb; cases hb
    rw [H.ins_other u _ this]; exact hb

theorem Seg.world {u : H} {w : World} (hw : Sub u w) {s : Sl} {size : Nat} {xs : List Value} (h : Seg u s size xs) {p : Addr} (hp : s.a = some p) : ∀ j v, xs[j]? = some v → w.cell? (p.add j) = some v := by
  intro j v e
  rcases h.at' with h | ⟨q, hq, hc⟩
  · subst h; simp at e
  · rw [hp] at hq; cases hq
    exact hw.cell (hc j v e)

theorem grown_size (z : Array Value) {size need cap : Nat} (hz : z.size = size) (h : need ≤ cap) {xs : List Value} (hx : xs.length = need * size) :
    (xs.toArray ++ Builtin.zeroCells z (cap - need)).size = cap * size := by
  simp only [Array.size_append, List.size_toArray, size_zeroCells, hz, hx, ← Nat.add_mul]
  congr 1
  omega

/-- Where there is no room, or nothing yet: a new block. -/
theorem sem_append_new {P : Program} {t ty e : TypeId} {size bytes : Nat} {zs : List Value} (hT : elemT P t = some (e, size, bytes, zs)) {s x : Sl} {xs ys : List Value} {u : H} {K : Sl → H → Prop}
    (hs : Seg u s size xs) (hx : Seg u x size ys) (hroom : s.c < s.n + x.n) (hsome : s = ⟨none, 0, 0⟩ ∨ s.a ≠ none) (hxs : x.a ≠ none) (hm : s.n + x.n ≤ 9223372036854775807) (hb : (s.n + x.n) * bytes ≤ 140737488355328)
    (hK : ∀ g c cur, u g = none → Own (u.ins g (.cells cur e (0, 0))) e size ⟨some ⟨g, 0, none⟩, s.n + x.n, c⟩ (xs ++ ys) → K ⟨some ⟨g, 0, none⟩, s.n + x.n, c⟩ (u.ins g (.cells cur e (0, 0)))) :
    SemT P (Builtin.append_ #[t, t] ty #[.slice s.a s.n s.c, .slice x.a x.n x.c]) [.one .slice] u K := by
  obtain ⟨ht, i, z, hi, hz, hsize, hby, hzs, _⟩ := elemT_spec hT
  subst hsize
  subst hby
  refine .one (c := .slice) fun w hw => ?_
  obtain ⟨q, hq⟩ := Option.ne_none_iff_exists'.1 hxs
  have hnews := hx.world hw hq
  have hlen : (xs ++ ys).length = (s.n + x.n) * i.size := by rw [List.length_append, hs.len, hx.len, Nat.add_mul]
  have fin : ∀ old (o : Array Value), (Builtin.append_ #[t, t] ty #[.slice s.a s.n s.c, .slice x.a x.n x.c]).run P w = .ok (.slice (some ⟨w.heap.size, 0, none⟩) (s.n + x.n) (grownCap w (s.n + x.n) old e)) (w.drew.alloc (.cells o e)) →
      o = ((xs ++ ys).toArray ++ Builtin.zeroCells z.cells (grownCap w (s.n + x.n) old e - (s.n + x.n))) →
      ∃ x_1 w' u', (Builtin.append_ #[t, t] ty #[.slice s.a s.n s.c, .slice x.a x.n x.c]).run P w = .ok (CT.slice.enc x_1) w' ∧ K x_1 u' ∧ Step u [] w u' [] w' := by
    intro old o hr ho
    have hge := grownCap_ge w (s.n + x.n) old e
    have hcm := grownCap_le_maxLen w (s.n + x.n) old e (by rw [maxLen_eq]; exact hm)
    rw [maxLen_eq] at hcm
    have hst := step_new hw (.cells o e)
    refine ⟨⟨some ⟨w.heap.size, 0, none⟩, s.n + x.n, grownCap w (s.n + x.n) old e⟩, _, _, hr, hK _ _ _ hst.2 ⟨hlen, .inr ⟨w.heap.size, o, rfl, H.ins_same _ _ _, hge, hcm, ?_, ?_⟩⟩, hst.1⟩
    · rw [ho]; exact grown_size z.cells hzs hge hlen
    · rw [ho]
      simp only [Array.toList_append]
      rw [← hlen]
      exact List.take_left
  rcases hsome with h0 | h0
  · subst h0
    have hxs0 : xs = [] := by simpa using hs.len
    subst hxs0
    simp only [Nat.zero_add] at *
    have hr := run_append_nil (P := P) w t ty e i z ht hi hz q x.n x.c ys hx.len hnews (by omega) (by omega) (by omega)
    rw [hq]
    rw [hq] at fin
    exact fin 0 _ hr (by simp)
  · obtain ⟨p, hp⟩ := Option.ne_none_iff_exists'.1 h0
    have hr := run_append_grow (P := P) w t ty e i z ht hi hz p s.n s.c xs hs.len (hs.world hw hp) q x.n x.c ys hx.len hnews hroom (by omega) (growslice_fits hroom hb)
    rw [hp, hq]
    rw [hp, hq] at fin
    exact fin s.c _ hr (by simp)

theorem sem_append {P : Program} {t ty e : TypeId} {size bytes : Nat} {zs : List Value} (hT : elemT P t = some (e, size, bytes, zs)) (hsz : 0 < size) {s x : Sl} {xs ys : List Value} {u : H} {K : Sl → H → Prop}
    (ho : Own u e size s xs) (hx : Seg u x size ys) (h1 : ∀ y ∈ ys, y.oneCell' = true) (hm : s.n + x.n ≤ 9223372036854775807) (hb : (s.n + x.n) * bytes ≤ 140737488355328)
    (hK : ∀ s' u', Own u' e size s' (xs ++ ys) → s'.n = s.n + x.n → Grew u u' s s' → (s' = ⟨none, 0, 0⟩ ↔ s = ⟨none, 0, 0⟩ ∧ x.n = 0) → K s' u') :
    SemT P (Builtin.append_ #[t, t] ty #[.slice s.a s.n s.c, .slice x.a x.n x.c]) [.one .slice] u K := by
  obtain ⟨ht, i, z, hi, hz, hsize, hby, hzs, _⟩ := elemT_spec hT
  have hncap : s.n ≤ s.c := ho.seg.cap
  by_cases hx0 : x.n = 0
  · have hys : ys = [] := by simpa [hx0] using hx.len
    subst hys
    refine .one' (c := .slice) s (fun w hw => ?_) (hK s u (by simpa using ho) (by omega) ⟨fun _ _ h _ => h, .inl rfl⟩ (by simp [hx0]))
    have hl : ∀ (y : Addr), (loadCells y 0).run P w = .ok #[] w := fun y => by simpa using run_loadCells_list (P := P) w y [] (by simp)
    rw [hx0]
    cases hsa : s.a <;> cases hxa : x.a <;> simp [Builtin.append_, run_underlying ht, sizeOf, typeInfo, hi, Builtin.lenOf, Builtin.firstCells, hncap, CT.enc, hsa, hl, storeCells]
  · have hxs : x.a ≠ none := by
      intro h
      rcases hx.at' with h' | ⟨p, hp, _⟩
      · have := hx.len
        rw [h'] at this
        simp only [List.length_nil] at this
        rcases Nat.mul_eq_zero.1 this.symm with h | h <;> omega
      · rw [h] at hp; cases hp
    by_cases hroom : s.n + x.n ≤ s.c
    · rcases ho.is with h0 | ⟨g, cur, ha, hg, hn, hc, hs, htk⟩
      · exfalso; subst h0; simp only [Nat.zero_add] at hroom; omega
      · obtain ⟨q, hq⟩ := Option.ne_none_iff_exists'.1 hxs
        refine .one (c := .slice) fun w hw => ?_
        have hfit : s.n * i.size + ys.length ≤ cur.size := by rw [hx.len, hs, hsize, ← Nat.add_mul]; exact Nat.mul_le_mul_right _ hroom
        have hr := run_append_room (P := P) w t ty e i ht hi g s.n s.c cur (hw _ _ hg) q x.n x.c ys (by rw [hsize]; exact hx.len) (hx.world hw hq) h1 hroom hfit
        rw [ha, hq, hr]
        refine ⟨⟨some ⟨g, 0, none⟩, s.n + x.n, s.c⟩, _, _, rfl, hK _ _ ⟨by rw [List.length_append, ho.len, hx.len, Nat.add_mul], .inr ⟨g, _, rfl, H.ins_same _ _ _, hroom, hc, ?_, ?_⟩⟩ rfl
          ⟨fun b o e hb => ?_, .inl (by simp [Sl.blk, ha])⟩ ⟨fun h => by simp at h, fun h => absurd h.2 hx0⟩, step_row hw hg _⟩
        · simp only [List.size_toArray, List.length_append, List.length_take, List.length_drop, Array.length_toList]
          omega
        · rw [hsize, htk]
          have : (xs ++ ys).length = (s.n + x.n) * size := by rw [List.length_append, ho.len, hx.len, Nat.add_mul]
          simp only [← this]
          exact List.take_left
        · rw [H.ins_other u _ (fun h => hb (by simp [Sl.blk, ha, h]))]; exact e
    · have hsome : s = ⟨none, 0, 0⟩ ∨ s.a ≠ none := by
        rcases ho.is with h | ⟨g, cur, ha, _⟩
        · exact .inl h
        · exact .inr (by rw [ha]; simp)
      refine sem_append_new hT ho.seg hx (by omega) hsome hxs hm hb fun g c cur hg hown => hK _ _ hown rfl ⟨fun b o e _ => ?_, .inr ⟨g, rfl, hg⟩⟩ ⟨fun h => by simp at h, fun h => absurd h.2 hx0⟩
      rw [H.ins_other u _ (fun h => by rw [h, hg] at e; cases e)]
      exact e

/-! ### slices that are made -/

/-- The cells of a slice literal, with its element's type. -/
def buildOf (P : Program) (t n : Nat) (ps : Array (Nat × Value)) : Option (TypeId × List Value) :=
  match elemT P t with
  | some (e, size, _, zs) => match Nat.ble (n * size) 16777216, Nat.ble 1 size,
      Instr.fill (fun i => some (i * size, size)) ((Array.range (n * size)).map (zs.toArray[· % zs.toArray.size]!)) ps.toList with
    | true, true, some cells => some (e, cells.toList)
    | _, _, _ => none
  | none => none

theorem sem_build {P : Program} {t n e : Nat} {ps : Array (Nat × Value)} {cells : List Value} (h : buildOf P t n ps = some (e, cells)) {u : H} {K : Sl → H → Prop}
    (hK : ∀ g, u g = none → K ⟨some ⟨g, 0, none⟩, n, n⟩ (u.ins g (.cells cells.toArray e (0, 0)))) : SemT P (Instr.buildSlice t n ps) [.one .slice] u K := by
  unfold buildOf at h
  split at h
  · rename_i e' size bytes zs hT
    obtain ⟨ht, i, z, hi, hz, hsize, hby, hzs, hzl⟩ := elemT_spec hT
    subst hsize
    split at h
    · rename_i cs hle hpos hf
      cases h
      have hle := Nat.le_of_ble_eq_true hle
      have hpos := Nat.le_of_ble_eq_true hpos
      refine .one (c := .slice) fun w hw => ?_
      refine ⟨⟨some ⟨w.heap.size, 0, none⟩, n, n⟩, w.alloc (.cells cs e (0, 0)), _, ?_, hK w.heap.size (hw.none (Nat.le_refl _)), by simpa using Step.newKnown hw (.cells cs e (0, 0))⟩
      have hzt : zs.toArray = z.cells := by rw [← hzl]
      rw [hzt] at hf
      have hn : ¬ (16777216 < n * i.size) := by omega
      by_cases hn0 : n = 0
      · subst hn0
        simp only [Nat.zero_mul, Array.range_zero', Array.map_empty] at hf
        simp [Instr.buildSlice, run_underlying ht, sizeOf, typeInfo, hi, Array.range_zero', hf, newRow, CT.enc]
      · have hp : ¬ (n * i.size = 0) := by
          intro h
          rcases Nat.mul_eq_zero.1 h with h | h <;> omega
        simp [Instr.buildSlice, run_underlying ht, sizeOf, typeInfo, hi, hn, hp, zeroValue, hz, hf, newRow, CT.enc]
    · cases h
  · cases h

/-- makeSlice: so many zeros. -/
theorem sem_make {P : Program} {t e : TypeId} {size bytes : Nat} {zs : List Value} (hT : elemT P t = some (e, size, bytes, zs)) {l c : Int} (h0 : 0 ≤ l) (hlc : l ≤ c) (hb : (bytes : Int) * c ≤ 281474976710656) (h63 : c ≤ 9223372036854775807)
    {u : H} {K : Sl → H → Prop}
    (hK : ∀ g, u g = none → K ⟨some ⟨g, 0, none⟩, l.toNat, c.toNat⟩ (u.ins g (.cells (madeCells zs.toArray (c.toNat * size)) e (0, 0)))) :
    SemT P (Instr.makeSlice t (.int .i64 l) (.int .i64 c)) [.one .slice] u K := by
  obtain ⟨ht, i, z, hi, hz, hsize, hby, hzs, hzl⟩ := elemT_spec hT
  refine .one (c := .slice) fun w hw => ?_
  have hr := run_make (P := P) w t e i z ht hi hz .i64 .i64 l c h0 hlc (by rw [hby]; exact hb) h63
  have hzt : zs.toArray = z.cells := by rw [← hzl]
  rw [hsize, ← hzt] at hr
  exact ⟨⟨some ⟨w.heap.size, 0, none⟩, l.toNat, c.toNat⟩, _, _, hr, hK _ (hw.none (Nat.le_refl _)), Step.newKnown hw _⟩

/-! ### parts of slices -/

theorem runSize {P : Program} {t e : TypeId} {size bytes : Nat} {zs : List Value} (hT : elemT P t = some (e, size, bytes, zs)) (w : World) : P.underlying t = some (.slice (P.elem t)) ∧ (sizeOf (P.elem t)).run P w = .ok size w := by
  obtain ⟨ht, i, z, hi, hz, hsize, hby, hzs, hzl⟩ := elemT_spec hT
  have he : P.elem t = e := by simp [Program.elem, ht]
  rw [he]
  exact ⟨ht, by simp [sizeOf, typeInfo, hi, hsize]⟩

/-- A part of a slice, as a slice. -/
def Sl.part (s : Sl) (l h m size : Nat) : Sl := ⟨if m = l then s.a else s.a.map (·.add (l * size)), h - l, m - l⟩

theorem sem_slice {P : Program} {t e : TypeId} {size bytes : Nat} {zs : List Value} (hT : elemT P t = some (e, size, bytes, zs)) {s : Sl} {lo hi mx : Option Value} {l h m : Nat} {u : H} {K : Sl → H → Prop}
    (hlo : lo = none ∧ l = 0 ∨ lo = some (.int .i64 l)) (hhi : hi = none ∧ h = s.n ∨ hi = some (.int .i64 h)) (hmx : mx = none ∧ m = s.c ∨ mx = some (.int .i64 m) ∧ hi ≠ none)
    (h1 : l ≤ h) (h2 : h ≤ m) (h3 : m ≤ s.c) (h4 : s.n ≤ s.c) (hK : K (s.part l h m size) u) :
    SemT P (Instr.sliceAt t (.slice s.a s.n s.c) lo hi mx) [.one .slice] u K := by
  refine .one' (c := .slice) (s.part l h m size) (fun w _ => ?_) hK
  obtain ⟨ht, hs⟩ := runSize hT w
  rw [run_sliceAt_slice (w := w) (h := ht)]
  rcases hlo with ⟨rfl, rfl⟩ | rfl <;> rcases hhi with ⟨rfl, rfl⟩ | rfl <;> rcases hmx with ⟨rfl, rfl⟩ | ⟨rfl, hm⟩
  · rw [run_slice_all (w := w) (ht := ht), hs]; rfl
  · exact absurd rfl hm
  · rw [run_slice_h (w := w) (ht := ht) (h0 := by omega) (h2 := by omega), hs]; simp [Result.andThen, sliced, Sl.part, CT.enc]
  · rw [run_slice_hm (w := w) (ht := ht) (h0 := by omega) (h2 := by omega) (h3 := by omega), hs]; simp [Result.andThen, sliced, Sl.part, CT.enc]
  · rw [run_slice_l (w := w) (ht := ht) (h0 := by omega) (h1 := by omega), hs]; simp [Result.andThen, sliced, Sl.part, CT.enc]
  · exact absurd rfl hm
  · rw [run_slice_lh (w := w) (ht := ht) (h0 := by omega) (h1 := by omega) (h2 := by omega), hs]; simp [Result.andThen, sliced, Sl.part, CT.enc]
  · rw [run_slice_lhm (w := w) (ht := ht) (h0 := by omega) (h1 := by omega) (h2 := by omega) (h3 := by omega), hs]; simp [Result.andThen, sliced, Sl.part, CT.enc]

theorem Addr.add_add' (a : Addr) (i j : Nat) : (a.add i).add j = a.add (i + j) := Addr.add_add a i j

/-- What a part of a slice reads. -/
theorem Seg.part {u : H} {s : Sl} {size : Nat} {xs : List Value} (hs : Seg u s size xs) {l h m : Nat} (h1 : l ≤ h) (h2 : h ≤ s.n) (h3 : h ≤ m) (h4 : m ≤ s.c) :
    Seg u (s.part l h m size) size ((xs.drop (l * size)).take ((h - l) * size)) := by
  have hl := hs.len
  have hle : h * size ≤ s.n * size := Nat.mul_le_mul_right _ h2
  have hll : l * size ≤ h * size := Nat.mul_le_mul_right _ h1
  have hsub : (h - l) * size = h * size - l * size := Nat.sub_mul _ _ _
  refine ⟨?_, ?_, ?_, ?_⟩
  · simp only [List.length_take, List.length_drop, Sl.part]; omega
  · simp only [Sl.part]; omega
  · simp only [Sl.part]; have := hs.max; omega
  · rcases hs.at' with h0 | ⟨p, hp, hc⟩
    · subst h0; exact .inl (by simp)
    · by_cases hml : m = l
      · refine .inl ?_
        have : h = l := by omega
        simp [this]
      · refine .inr ⟨p.add (l * size), by simp [Sl.part, hml, hp], fun i v e => ?_⟩
        rw [Addr.add_add']
        refine hc _ _ ?_
        rw [List.getElem?_take] at e
        split at e
        · simpa [List.getElem?_drop] using e
        · cases e

end Go.Proofs.YtncninpdlpemgaaGreat

/- VcMem -/
namespace Go.Proofs.YtncninpdlpemgaaGreat

section
variable {α : Type} {enc : α → List Value} {k : Nat}

theorem flat_len (hk : ∀ x, (enc x).length = k) (xs : List α) : (xs.flatMap enc).length = xs.length * k := by
  induction xs with
  | nil => simp
  | cons x xs ih => rw [List.flatMap_cons, List.length_append, ih, hk, List.length_cons, Nat.succ_mul]; omega

theorem flat_get (hk : ∀ x, (enc x).length = k) : ∀ (xs : List α) (i j : Nat), j < k → (xs.flatMap enc)[i * k + j]? = (xs[i]?).bind fun x => (enc x)[j]? := by
  intro xs
  induction xs with
  | nil => intro i j _; simp
  | cons x xs ih =>
    intro i j hj
    rw [List.flatMap_cons]
    cases i with
    | zero => rw [Nat.zero_mul, Nat.zero_add, List.getElem?_append_left (by rw [hk]; exact hj)]; simp
    | succ i =>
      rw [List.getElem?_append_right (by rw [hk, Nat.succ_mul]; omega), hk]
      have : (i + 1) * k + j - k = i * k + j := by rw [Nat.succ_mul]; omega
      rw [this, ih i j hj]
      simp

theorem flat_set (hk : ∀ x, (enc x).length = k) : ∀ (xs : List α) (i : Nat) (y : α), i < xs.length →
    (xs.set i y).flatMap enc = (xs.flatMap enc).take (i * k) ++ enc y ++ (xs.flatMap enc).drop (i * k + k) := by
  intro xs
  induction xs with
  | nil => intro i y h; simp at h
  | cons x xs ih =>
    intro i y h
    cases i with
    | zero =>
      rw [Nat.zero_mul, Nat.zero_add, List.set_cons_zero, List.flatMap_cons, List.flatMap_cons, List.take_zero, List.nil_append, List.drop_append_of_le_length (by rw [hk]; exact Nat.le_refl _)]
      have : (enc x).drop k = [] := List.drop_eq_nil_of_le (by rw [hk]; exact Nat.le_refl _)
      rw [this, List.nil_append]
    | succ i =>
      rw [List.set_cons_succ, List.flatMap_cons, List.flatMap_cons, ih i y (by simpa using h)]
      have h1 : (i + 1) * k = (enc x).length + i * k := by rw [hk, Nat.succ_mul]; omega
      have h3 : ∀ r : List Value, (enc x ++ r).take ((enc x).length + i * k) = enc x ++ r.take (i * k) := fun r => by
        rw [List.take_append, List.take_of_length_le (by omega), Nat.add_sub_cancel_left]
      have h4 : ∀ r : List Value, (enc x ++ r).drop ((enc x).length + (i * k + k)) = r.drop (i * k + k) := fun r => by
        rw [List.drop_append, List.drop_eq_nil_of_le (by omega), List.nil_append, Nat.add_sub_cancel_left]
      rw [h1, Nat.add_assoc, h3, h4]
      simp only [List.append_assoc]

theorem flat_take (hk : ∀ x, (enc x).length = k) (xs : List α) (n : Nat) : (xs.flatMap enc).take (n * k) = (xs.take n).flatMap enc := by
  induction xs generalizing n with
  | nil => simp
  | cons x xs ih =>
    cases n with
    | zero => simp
    | succ n =>
      rw [List.flatMap_cons, List.take_succ_cons, List.flatMap_cons, List.take_append, List.take_of_length_le (by rw [hk, Nat.succ_mul]; omega), hk]
      have : (n + 1) * k - k = n * k := by rw [Nat.succ_mul]; omega
      rw [this, ih]

theorem flat_drop (hk : ∀ x, (enc x).length = k) (xs : List α) (n : Nat) : (xs.flatMap enc).drop (n * k) = (xs.drop n).flatMap enc := by
  induction xs generalizing n with
  | nil => simp
  | cons x xs ih =>
    cases n with
    | zero => simp
    | succ n =>
      rw [List.flatMap_cons, List.drop_succ_cons, List.drop_append, List.drop_eq_nil_of_le (by rw [hk, Nat.succ_mul]; omega), List.nil_append, hk]
      have : (n + 1) * k - k = n * k := by rw [Nat.succ_mul]; omega
      rw [this, ih]

theorem flat_n {u : H} {s : Sl} {xs : List α} (hk : ∀ x, (enc x).length = k) (hk0 : 0 < k) (h : Seg u s k (xs.flatMap enc)) : s.n = xs.length := by
  have := h.len
  rw [flat_len hk] at this
  exact (Nat.eq_of_mul_eq_mul_right hk0 this).symm

/-- An element's cells. -/
theorem Seg.elem {u : H} {s : Sl} {xs : List α} (hk : ∀ x, (enc x).length = k) (hk0 : 0 < k) (h : Seg u s k (xs.flatMap enc)) {i : Nat} {x : α} (hi : xs[i]? = some x) :
    ∃ p, s.a = some p ∧ ∀ j v, (enc x)[j]? = some v → u.cell? ((p.add (i * k)).add j) = some v := by
  have hl : i < xs.length := (List.getElem?_eq_some_iff.1 hi).1
  have h0 : i * k + 0 < (xs.flatMap enc).length := by
    rw [flat_len hk]
    calc i * k + 0 < i * k + k := by omega
      _ = (i + 1) * k := by rw [Nat.succ_mul]
      _ ≤ xs.length * k := Nat.mul_le_mul_right _ hl
  obtain ⟨p, hp, hc⟩ := h.get h0
  refine ⟨p, hp, fun j v hv => ?_⟩
  rw [Addr.add_add']
  refine hc _ _ ?_
  have hj : j < k := by rw [← hk x]; exact (List.getElem?_eq_some_iff.1 hv).1
  rw [flat_get hk xs i j hj, hi]
  exact hv

/-- A slice of one's own, and that what was known before is still known: u0: what was known when it was begun. -/
structure OwnF (u0 u : H) (e k : Nat) (s : Sl) (xs : List Value) : Prop where
  own : Own u e k s xs
  le : u0.le u
  fresh : ∀ g, s.blk = some g → u0 g = none

theorem OwnF.nil {u0 u : H} (h : u0.le u) (e k : Nat) : OwnF u0 u e k ⟨none, 0, 0⟩ [] := ⟨.nil u e k, h, fun g hg => by simp [Sl.blk] at hg⟩

theorem OwnF.mono {u0 u u' : H} {e : Nat} {s : Sl} {xs : List Value} (h : OwnF u0 u e k s xs) (hu : u.le u') : OwnF u0 u' e k s xs :=
  ⟨h.own.le fun _ _ _ hb => hu _ _ hb, h.le.trans hu, h.fresh⟩

theorem OwnF.weaken {u0 u1 u : H} {e : Nat} {s : Sl} {xs : List Value} (h : OwnF u1 u e k s xs) (h0 : u0.le u1) : OwnF u0 u e k s xs :=
  ⟨h.own, h0.trans h.le, fun g hg => by
    cases hx : u0 g with
    | none => rfl
    | some o => have := h.fresh g hg; rw [h0 _ _ hx] at this; cases this⟩

/-- What else is known stays. -/
def Else (u u' : H) (s : Sl) : Prop := ∀ b o, u b = some o → s.blk ≠ some b → u' b = some o

theorem Else.refl (u : H) (s : Sl) : Else u u s := fun _ _ h _ => h

theorem OwnF.else {u0 u u' : H} {e e' k' : Nat} {s t : Sl} {xs : List Value} (h : OwnF u0 u e' k' t xs) (he : Else u u' s) (hs : ∀ g, s.blk = some g → u0 g = none) (hne : ∀ g, s.blk = some g → t.blk ≠ some g) : OwnF u0 u' e' k' t xs :=
  ⟨h.own.le fun b o hb hu => he b o hu fun hg => hne b hg hb, fun b o hb => he b o (h.le b o hb) fun hg => (by rw [hs b hg] at hb; cases hb), h.fresh⟩

/-- A new block of cells that is a slice's. -/
theorem OwnF.make {u0 u : H} (h : u0.le u) {g : Nat} (hg : u g = none) {cells : Array Value} {e n : Nat} (hn : n ≤ 9223372036854775807) (hs : cells.size = n * k) :
    OwnF u0 (u.ins g (.cells cells e (0, 0))) e k ⟨some ⟨g, 0, none⟩, n, n⟩ cells.toList := by
  refine ⟨⟨by simp [hs], .inr ⟨g, cells, rfl, H.ins_same _ _ _, Nat.le_refl _, hn, hs, ?_⟩⟩, h.trans (H.le_ins _ hg), fun g' hg' => ?_⟩
  · rw [List.take_of_length_le (by simp [hs])]
  · simp [Sl.blk] at hg'
    subst hg'
    cases hx : u0 g with
    | none => rfl
    | some o => rw [h _ _ hx] at hg; cases hg

theorem wr_toList (c : Array Value) (o : Nat) (vs : List Value) (h : o + vs.length ≤ c.size) : (wr c o vs).toList = c.toList.take o ++ vs ++ c.toList.drop (o + vs.length) := by
  have := wr_over vs c.toList o (by simpa using h)
  rw [Array.toArray_toList] at this
  rw [this]
  rfl

theorem OwnF.store {u0 u : H} {e : Nat} {s : Sl} {xs : List α} (hk : ∀ x, (enc x).length = k) (h : OwnF u0 u e k s (xs.flatMap enc)) {i : Nat} (hk0 : 0 < k) (hi : i < xs.length) {y : α} (h1 : ∀ v ∈ enc y, v.oneCell' = true)
    {p : Addr} (hp : s.a = some p) {f : H → Prop} (hf : ∀ u', OwnF u0 u' e k s ((xs.set i y).flatMap enc) → Else u u' s → (∀ b, u b = none → u' b = none) → f u') : H.St u (p.add (i * k)) (enc y) f := by
  rcases h.own.is with h0 | ⟨g, cur, ha, hg, hn, hc, hs, ht⟩
  · rw [h0] at hp; cases hp
  · rw [ha] at hp
    cases hp
    have hadd : (⟨g, 0, none⟩ : Addr).add (i * k) = ⟨g, i * k, none⟩ := by rw [Addr.add_lit, Nat.zero_add]
    have hsn := flat_n hk hk0 h.own.seg
    have hle : i * k + k ≤ s.n * k := by
      calc i * k + k = (i + 1) * k := by rw [Nat.succ_mul]
        _ ≤ s.n * k := Nat.mul_le_mul_right _ (by omega)
    have hle2 : s.n * k ≤ s.c * k := Nat.mul_le_mul_right _ hn
    rw [hadd]
    have hsz : i * k + (enc y).length ≤ cur.size := by rw [hk, hs]; omega
    refine ⟨cur, e, hg, rfl, hsz, h1, hf _ ?_ ?_ ?_⟩
    · refine ⟨⟨by rw [flat_len hk, List.length_set, hsn], .inr ⟨g, _, ha, H.ins_same _ _ _, hn, hc, ?_, ?_⟩⟩, ?_, h.fresh⟩
      · rw [← Array.length_toList, wr_toList _ _ _ hsz]
        simp only [List.length_append, List.length_take, List.length_drop, Array.length_toList]
        omega
      · rw [wr_toList _ _ _ hsz, flat_set hk xs i y hi, ← ht, hk]
        have hl1 : (cur.toList.take (i * k) ++ enc y).length = i * k + k := by simp only [List.length_append, List.length_take, Array.length_toList, hk]; omega
        rw [List.take_append, List.take_of_length_le (by omega), hl1]
        congr 1
        · congr 1
          rw [List.take_take, Nat.min_eq_left (by omega)]
        · rw [← List.drop_take]
      · exact fun b o hb => by
          have : b ≠ g := fun hbg => by
            have := h.fresh g (by simp [Sl.blk, ha])
            rw [hbg, this] at hb; cases hb
          rw [H.ins_other _ _ this]; exact h.le b o hb
    · intro b o hb hne
      rw [H.ins_other _ _ (fun hbg => hne (by simp [Sl.blk, ha, hbg]))]; exact hb
    · intro b hb
      rw [H.ins_other _ _ (fun hbg => by rw [hbg, hg] at hb; cases hb)]; exact hb

end

theorem SemT.slice_mono {P : Program} {m : Sem Value} {u : H} {K K' : Sl → H → Prop} (h : SemT P m [.one .slice] u K) (hk : ∀ s u', K s u' → K' s u') : SemT P m [.one .slice] u K' := by
  intro w hw
  obtain ⟨v, w', u', h1, ⟨vs, h2, h3, h4⟩, h5⟩ := h w hw
  refine ⟨v, w', u', h1, ⟨vs, h2, h3, ?_⟩, h5⟩
  cases h2 with
  | cons x hr =>
    cases hr
    exact (CT.un_enc .slice x _).2 (hk _ _ ((CT.un_enc .slice x _).1 h4))

/-- One element behind the others: the literal of one, and append. -/
theorem sem_push {P : Program} {t e : TypeId} {size bytes : Nat} {zs ys : List Value} {ps : Array (Nat × Value)} (hT : elemT P t = some (e, size, bytes, zs)) (hB : buildOf P t 1 ps = some (e, ys)) (hsz : 0 < size)
    (hy : ys.length = size) (h1 : ∀ y ∈ ys, y.oneCell' = true) {u0 u : H} {s : Sl} {xs : List Value} (h : OwnF u0 u e size s xs) (hm : s.n < 9223372036854775807) (hb : (s.n + 1) * bytes ≤ 140737488355328) {K : Sl → H → Prop}
    (hK : ∀ s' u', OwnF u0 u' e size s' (xs ++ ys) → s'.n = s.n + 1 → Else u u' s → (∀ g, s'.blk = some g → s.blk = some g ∨ u g = none) → s'.a ≠ none → K s' u') :
    SemT P (Instr.buildSlice t 1 ps) [.one .slice] u fun s1 u1 => u.le u1 ∧ SemT P (Builtin.append_ #[t, t] t #[.slice s.a s.n s.c, .slice s1.a s1.n s1.c]) [.one .slice] u1 K := by
  refine sem_build hB fun g hg => ⟨H.le_ins _ hg, ?_⟩
  have hx : Seg (u.ins g (.cells ys.toArray e (0, 0))) ⟨some ⟨g, 0, none⟩, 1, 1⟩ size ys := by
    have := (OwnF.make (k := size) (H.le.refl u) hg (cells := ys.toArray) (e := e) (n := 1) (by omega) (by simp [hy])).own.seg
    simpa using this
  have h' := h.mono (H.le_ins (u := u) (b := g) (.cells ys.toArray e (0, 0)) hg)
  refine sem_append hT hsz h'.own hx h1 (by simp only; omega) (by simpa using hb) fun s' u' ho hn hgr hnil => hK s' u' ⟨ho, hgr.le h'.le h.fresh, fun g' hg' => hgr.out h'.le h.fresh g' hg'⟩ (by simpa using hn) ?_ ?_ ?_
  · intro b o hb hne
    exact hgr.rest b o (H.le_ins _ hg _ _ hb) hne
  · intro g' hg'
    rcases hgr.blk with hb | ⟨g2, hb, hn2⟩
    · exact .inl (by rw [← hb]; exact hg')
    · rw [hb] at hg'; cases hg'
      refine .inr ?_
      cases hx : u g' with
      | none => rfl
      | some o => rw [H.le_ins _ hg _ _ hx] at hn2; cases hn2
  · intro hnone
    rcases ho.is with h0 | ⟨g2, _, ha, _⟩
    · have := (hnil.1 h0).2
      simp at this
    · rw [hnone] at ha; cases ha

theorem sem_push' {P : Program} {t e : TypeId} {size bytes : Nat} {zs ys : List Value} {ps : Array (Nat × Value)} (hT : elemT P t = some (e, size, bytes, zs)) (hB : buildOf P t 1 ps = some (e, ys)) (hsz : 0 < size)
    (hy : ys.length = size) (h1 : ∀ y ∈ ys, y.oneCell' = true) {u0 u : H} {s : Sl} {xs : List Value} (h : OwnF u0 u e size s xs) (hm : s.n < 9223372036854775807) (hb : (s.n + 1) * bytes ≤ 140737488355328) {K : Sl → H → Prop}
    (hK : ∀ s' u', OwnF u0 u' e size s' (xs ++ ys) → s'.n = s.n + 1 → Else u u' s → (∀ g, s'.blk = some g → s.blk = some g ∨ u g = none) → s'.a ≠ none → K s' u') :
    SemT P (Instr.buildSlice t 1 ps) [.one .slice] u fun s1 u1 => SemT P (Builtin.append_ #[t, t] t #[.slice s.a s.n s.c, .slice s1.a s1.n s1.c]) [.one .slice] u1 K := by
  exact SemT.slice_mono (sem_push hT hB hsz hy h1 h hm hb hK) fun _ _ h => h.2

/-! ### maps of ints that are sets -/

/-- A map that has just these keys, each true. -/
def SetOf (u : H) (b : Nat) (l : List Int) : Prop := ∃ es clock, u b = some (.map es clock) ∧ es.toList.map (fun e => (e.key, e.val)) = l.map fun x => (Value.int .i64 x, Value.bool true)

theorem SetOf.mono {u u' : H} {b : Nat} {l : List Int} (h : SetOf u b l) (hu : u.le u') : SetOf u' b l := by
  obtain ⟨es, c, h1, h2⟩ := h
  exact ⟨es, c, hu _ _ h1, h2⟩

theorem findNow_set (x : Int) : ∀ (es : List MapEntry) (l : List Int) (i : Nat), es.map (fun e => (e.key, e.val)) = l.map (fun x => (Value.int .i64 x, Value.bool true)) →
    (x ∈ l → ∃ j, Instr.findNow (.int .i64) (.int .i64 x) es i = some (some (j, .bool true))) ∧ (x ∉ l → Instr.findNow (.int .i64) (.int .i64 x) es i = some none) := by
  intro es
  induction es with
  | nil =>
    intro l i h
    have : l = [] := by simpa using h.symm
    subst this
    exact ⟨fun h => (by cases h), fun _ => rfl⟩
  | cons e es ih =>
    intro l i h
    cases l with
    | nil => simp at h
    | cons y l =>
      simp only [List.map_cons, List.cons.injEq, Prod.mk.injEq] at h
      obtain ⟨⟨hk, hv⟩, hr⟩ := h
      obtain ⟨i1, i2⟩ := ih l (i + 1) hr
      unfold Instr.findNow
      rw [hk, hv]
      simp only [Instr.sameNow, if_true]
      by_cases hxy : x = y
      · subst hxy
        simp
      · have hb : (x == y) = false := by simpa using hxy
        rw [hb]
        refine ⟨fun hm => ?_, fun hm => ?_⟩
        · rcases List.mem_cons.1 hm with h | h
          · exact absurd h hxy
          · exact i1 h
        · exact i2 fun h => hm (List.mem_cons_of_mem _ h)

theorem sem_makeMap {P : Program} {t : TypeId} {u : H} {K : Option Nat → H → Prop} (hK : ∀ b, u b = none → SetOf (u.ins b (.map #[] 0)) b [] → K (some b) (u.ins b (.map #[] 0))) :
    SemT P (Instr.makeMap t none) [.one .map] u K :=
  .one (c := .map) fun w hw => ⟨some w.heap.size, _, _, Go.RowKit.run_makeMap t w, hK _ (hw.none (Nat.le_refl _)) ⟨#[], 0, H.ins_same _ _ _, rfl⟩, Step.newKnown hw _⟩

structure SetTy (P : Program) (t k e : TypeId) : Prop where
  ty : P.underlying t = some (.map k e)
  key : P.underlying k = some (.int .i64)
  zero : ∀ w, (zeroValue e).run P w = .ok (.bool false) w

theorem SetTy.find {P : Program} {t k e : TypeId} (T : SetTy P t k e) {es : Array MapEntry} {l : List Int} (h : es.toList.map (fun e => (e.key, e.val)) = l.map fun x => (Value.int .i64 x, Value.bool true)) (x : Int) (w : World) :
    (x ∈ l → ∃ j, (Instr.findKey k (.int .i64 x) es.toList).run P w = .ok (some (j, .bool true)) w) ∧ (x ∉ l → (Instr.findKey k (.int .i64 x) es.toList).run P w = .ok none w) := by
  obtain ⟨h1, h2⟩ := findNow_set x es.toList l 0 h
  constructor
  · intro hx
    obtain ⟨j, hj⟩ := h1 hx
    exact ⟨j, by simp [Instr.findKey, Sem.run_bind, run_underlying T.key, Result.andThen, hj]⟩
  · intro hx
    simp [Instr.findKey, Sem.run_bind, run_underlying T.key, Result.andThen, h2 hx]

theorem SetTy.check {P : Program} {t k e : TypeId} (T : SetTy P t k e) (b : Bool) (x : Int) (w : World) : (Instr.checkKey b 10000 k (.int .i64 x)).run P w = .ok () w := by
  show (Instr.checkKey b (9999 + 1) k (.int .i64 x)).run P w = .ok () w
  unfold Instr.checkKey
  simp [Sem.run_bind, run_underlying T.key, Result.andThen]

theorem sem_lookup {P : Program} {t k e : TypeId} (T : SetTy P t k e) {u : H} {b : Nat} {l : List Int} (h : SetOf u b l) {x : Int} {K : Bool → H → Prop} (hK : K (decide (x ∈ l)) u) :
    SemT P (Instr.lookup t (.map (some b)) (.int .i64 x) false) [.one .bool] u K := by
  obtain ⟨es, c, hb, hl⟩ := h
  refine .one' (c := .bool) (decide (x ∈ l)) (fun w hw => ?_) hK
  have hg := MapKept.run_getObj_map (P := P) (hw _ _ hb)
  have hf := T.find hl x w
  have hc := T.check es.isEmpty x w
  by_cases hx : x ∈ l
  · obtain ⟨j, hj⟩ := hf.1 hx
    simp [Instr.lookup, Sem.run_bind, run_underlying T.ty, hg, hc, hj, Result.andThen, hx, CT.enc]
  · have hj := hf.2 hx
    simp [Instr.lookup, Sem.run_bind, run_underlying T.ty, hg, hc, hj, Result.andThen, hx, CT.enc, T.zero]

theorem step_block {u : H} {w : World} (hw : Sub u w) {g : Nat} {o : Obj} (hg : u g = some o) (o' : Obj) : Step u [] w (u.ins g o') [] { w with heap := w.heap.setIfInBounds g o' } := by
  have hlt := hw.lt hg
  refine ⟨fun b x h => ?_, rfl, rfl, rfl, Nat.le_refl _, by simp, fun b _ hb _ => ?_, fun b _ hb => ?_, [], by simp, by simp⟩
  · unfold H.ins at h
    split at h
    · rename_i hbg; subst hbg; cases h; simp [hlt]
    · rename_i hbg
      show (w.heap.setIfInBounds g o')[b]? = some x
      rw [Array.getElem?_setIfInBounds_ne (Ne.symm hbg)]
      exact hw b x h
  · have : g ≠ b := fun h => by rw [← h, hg] at hb; cases hb
    show (w.heap.setIfInBounds g o')[b]? = w.heap[b]?
    rw [Array.getElem?_setIfInBounds_ne this]
  · have : b ≠ g := fun h => by rw [h, hg] at hb; cases hb
    rw [H.ins_other u _ this]; exact hb

theorem sem_mapAdd {P : Program} {t k e : TypeId} (T : SetTy P t k e) {u : H} {b : Nat} {l : List Int} (h : SetOf u b l) {x : Int} (hx : x ∉ l) {K : H → Prop}
    (hK : ∀ u', SetOf u' b (l ++ [x]) → (∀ g o, u g = some o → g ≠ b → u' g = some o) → (∀ g, u g = none → u' g = none) → K u') :
    SemT P (unit (Instr.mapUpdate t (.map (some b)) (.int .i64 x) (.bool true))) [] u K := by
  obtain ⟨es, c, hb, hl⟩ := h
  intro w hw
  have hg := MapKept.run_getObj_map (P := P) (hw _ _ hb)
  have hj := (T.find hl x w).2 hx
  have hc := T.check false x w
  have hset := MapKept.run_setObj_map (P := P) (.map (es.push { key := .int .i64 x, val := .bool true, born := c }) (c + 1)) (hw _ _ hb)
  refine ⟨_, _, u.ins b (.map (es.push { key := .int .i64 x, val := .bool true, born := c }) (c + 1)), ?_, ⟨[], .nil, rfl, hK _ ⟨_, _, H.ins_same _ _ _, ?_⟩ ?_ ?_⟩, step_block hw hb _⟩
  · simp [unit, Instr.mapUpdate, Sem.run_bind, run_underlying T.ty, hg, hc, hj, Result.andThen, hset]
    rfl
  · simp [hl]
  · intro g o hgo hne; rw [H.ins_other _ _ hne]; exact hgo
  · intro g hgo; rw [H.ins_other _ _ (fun h => by rw [h, hb] at hgo; cases hgo)]; exact hgo

end Go.Proofs.YtncninpdlpemgaaGreat
