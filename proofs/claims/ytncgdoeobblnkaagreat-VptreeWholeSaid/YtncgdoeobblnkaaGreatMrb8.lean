/- Texts of mine, joined by merge.py: VcMaps, VcOwn, VcVp1, VcVp2, VcPop, VcRest, VcWlk0, VcWlk1, VcWlk2, VcWlk3, VcWalkS, VcWlk4, VcWlk5, VcVp3, VcVp4, VcVp5, VcVp6. -/
import Derived.Test.YtncgdoeobblnkaaGreatMrb7
import Derived.Laws.NewFold
import Derived.Maps.RangeRun
set_option maxRecDepth 100000

/- VcMaps -/
namespace Go.Proofs.YtncgdoeobblnkaaGreat

/-- What an entry tells. -/
def MapEntry.kv (e : MapEntry) : Value × Value := (e.key, e.val)
def kvOf (p : Int × Value) : Value × Value := (.int .i64 p.1, p.2)

theorem kvOf_inj {p q : Int × Value} (h : kvOf p = kvOf q) : p = q := by
  cases p; cases q
  simp only [kvOf, Prod.mk.injEq, Value.int.injEq, true_and] at h
  obtain ⟨h1, h2⟩ := h
  subst h1; subst h2; rfl

/-- A map's entries: their keys and values in the order of their births. -/
structure Ents (es : Array MapEntry) (clock : Nat) (l : List (Int × Value)) : Prop where
  kv : es.toList.map MapEntry.kv = l.map kvOf
  born : (es.toList.map (·.born)).Nodup
  lt : ∀ e ∈ es.toList, e.born < clock
  nodup : (l.map (·.1)).Nodup

def MapAt (u : H) (b : Nat) (l : List (Int × Value)) : Prop := ∃ es clock, u b = some (.map es clock) ∧ Ents es clock l

theorem MapAt.mono {u u' : H} {b : Nat} {l : List (Int × Value)} (h : MapAt u b l) (hu : u.le u') : MapAt u' b l := by
  obtain ⟨es, c, h1, h2⟩ := h
  exact ⟨es, c, hu _ _ h1, h2⟩

theorem MapAt.else {u u' : H} {b : Nat} {l : List (Int × Value)} (h : MapAt u b l) (hu : ∀ o, u b = some o → u' b = some o) : MapAt u' b l := by
  obtain ⟨es, c, h1, h2⟩ := h
  exact ⟨es, c, hu _ h1, h2⟩

def getL (l : List (Int × Value)) (x : Int) : Option Value := (l.find? fun p => p.1 == x).map (·.2)

theorem getL_mem {l : List (Int × Value)} {x : Int} {v : Value} (h : getL l x = some v) : (x, v) ∈ l := by
  unfold getL at h
  cases hf : l.find? fun p => p.1 == x with
  | none => rw [hf] at h; cases h
  | some p =>
    rw [hf] at h
    have h1 := List.find?_some hf
    have h2 := List.mem_of_find?_eq_some hf
    simp only [Option.map_some, Option.some.injEq] at h
    have : p.1 = x := by simpa using h1
    rw [← this, ← h]
    exact h2

theorem getL_none {l : List (Int × Value)} {x : Int} : getL l x = none ↔ x ∉ l.map (·.1) := by
  unfold getL
  rw [Option.map_eq_none_iff, List.find?_eq_none]
  simp only [beq_iff_eq, List.mem_map, Prod.exists, exists_and_right, exists_eq_right, not_exists, Prod.forall]
  exact ⟨fun h v hm => h x v hm rfl, fun h a b hm e => h b (e ▸ hm)⟩

theorem getL_some {l : List (Int × Value)} (hn : (l.map (·.1)).Nodup) {x : Int} {v : Value} : getL l x = some v ↔ (x, v) ∈ l := by
  refine ⟨getL_mem, fun h => ?_⟩
  cases hg : getL l x with
  | none => exact absurd (List.mem_map.2 ⟨_, h, rfl⟩) (getL_none.1 hg)
  | some v' =>
    have h' := getL_mem hg
    have : ∀ {l : List (Int × Value)}, (l.map (·.1)).Nodup → (x, v) ∈ l → (x, v') ∈ l → v = v' := by
      intro l
      induction l with
      | nil => intro _ h; cases h
      | cons p l ih =>
        intro hn h1 h2
        have h3 := List.nodup_cons.1 hn
        rcases List.mem_cons.1 h1 with e1 | h1
        · rcases List.mem_cons.1 h2 with e2 | h2
          · rw [← e2] at e1; cases e1; rfl
          · exact (h3.1 (List.mem_map.2 ⟨_, h2, by rw [← e1]⟩)).elim
        · rcases List.mem_cons.1 h2 with e2 | h2
          · exact (h3.1 (List.mem_map.2 ⟨_, h1, by rw [← e2]⟩)).elim
          · exact ih h3.2 h1 h2
    rw [this hn h h']

theorem findNow_get (x : Int) : ∀ (es : List MapEntry) (l : List (Int × Value)) (i : Nat), es.map MapEntry.kv = l.map kvOf →
    (getL l x = none → Instr.findNow (.int .i64) (.int .i64 x) es i = some none) ∧ (∀ v, getL l x = some v → ∃ j, Instr.findNow (.int .i64) (.int .i64 x) es i = some (some (i + j, v)) ∧ l[j]? = some (x, v)) := by
  intro es
  induction es with
  | nil =>
    intro l i h
    have : l = [] := by simpa using h.symm
    subst this
    exact ⟨fun _ => rfl, fun v hv => (by simp [getL] at hv)⟩
  | cons e es ih =>
    intro l i h
    cases l with
    | nil => simp at h
    | cons y l =>
      simp only [List.map_cons, List.cons.injEq, MapEntry.kv, kvOf, Prod.mk.injEq] at h
      obtain ⟨⟨hk, hv⟩, hr⟩ := h
      obtain ⟨i1, i2⟩ := ih l (i + 1) hr
      unfold Instr.findNow
      rw [hk, hv]
      simp only [Instr.sameNow, if_true]
      by_cases hxy : y.1 = x
      · have hb : (x == y.1) = true := by simpa using hxy.symm
        have hg : getL (y :: l) x = some y.2 := by simp [getL, hxy]
        rw [hb, hg]
        refine ⟨fun h => (by cases h), fun v hv => ⟨0, ?_, ?_⟩⟩
        · cases hv; rfl
        · cases hv; simp [← hxy]
      · have hb : (x == y.1) = false := by simpa using fun h => hxy h.symm
        have hg : getL (y :: l) x = getL l x := by
          have : (y.1 == x) = false := by simpa using hxy
          simp [getL, this]
        rw [hb, hg]
        refine ⟨i1, fun v hv => ?_⟩
        obtain ⟨j, h1, h2⟩ := i2 v hv
        exact ⟨j + 1, by rw [h1, show i + 1 + j = i + (j + 1) by omega], by simpa using h2⟩

structure MapTy (P : Program) (t k e : TypeId) (z : Value) : Prop where
  ty : P.underlying t = some (.map k e)
  key : P.underlying k = some (.int .i64)
  zero : ∀ w, (zeroValue e).run P w = .ok z w

theorem MapTy.check {P : Program} {t k e : TypeId} {z : Value} (T : MapTy P t k e z) (b : Bool) (x : Int) (w : World) : (Instr.checkKey b 10000 k (.int .i64 x)).run P w = .ok () w := by
  show (Instr.checkKey b (9999 + 1) k (.int .i64 x)).run P w = .ok () w
  unfold Instr.checkKey
  simp [Sem.run_bind, run_underlying T.key, Result.andThen]

theorem MapTy.find {P : Program} {t k e : TypeId} {z : Value} (T : MapTy P t k e z) {es : Array MapEntry} {l : List (Int × Value)} (h : es.toList.map MapEntry.kv = l.map kvOf) (x : Int) (w : World) :
    (getL l x = none → (Instr.findKey k (.int .i64 x) es.toList).run P w = .ok none w) ∧ (∀ v, getL l x = some v → ∃ j, (Instr.findKey k (.int .i64 x) es.toList).run P w = .ok (some (j, v)) w ∧ l[j]? = some (x, v)) := by
  obtain ⟨h1, h2⟩ := findNow_get x es.toList l 0 h
  constructor
  · intro hx
    simp [Instr.findKey, Sem.run_bind, run_underlying T.key, Result.andThen, h1 hx]
  · intro v hv
    obtain ⟨j, hj, hl⟩ := h2 v hv
    rw [Nat.zero_add] at hj
    exact ⟨j, by simp [Instr.findKey, Sem.run_bind, run_underlying T.key, Result.andThen, hj], hl⟩

theorem SemT.two' {P : Program} {m : Sem Value} {c d : CT} {u : H} {K : c.den → d.den → H → Prop} (x : c.den) (y : d.den) (h : ∀ w, Sub u w → m.run P w = .ok (.tuple #[c.enc x, d.enc y]) w) (hK : K x y u) : SemT P m [.one c, .one d] u K := by
  intro w hw
  exact ⟨_, w, u, h w hw, ⟨[c.enc x, d.enc y], .cons x (.cons y .nil), rfl, (CT.un_enc c x _).2 ((CT.un_enc d y _).2 hK)⟩, Step.refl hw⟩

theorem sem_get2 {P : Program} {t k e : TypeId} {z : Value} (T : MapTy P t k e z) {u : H} {b : Nat} {l : List (Int × Value)} (h : MapAt u b l) {x : Int} {ct : CT} (y : ct.den) (hy : (getL l x).getD z = ct.enc y) {K : ct.den → Bool → H → Prop} (hK : K y (getL l x).isSome u) :
    SemT P (Instr.lookup t (.map (some b)) (.int .i64 x) true) [.one ct, .one .bool] u K := by
  obtain ⟨es, c, hb, hl⟩ := h
  refine SemT.two' (c := ct) (d := .bool) y _ (fun w hw => ?_) hK
  have hg := MapKept.run_getObj_map (P := P) (hw _ _ hb)
  have hc := T.check es.isEmpty x w
  obtain ⟨f1, f2⟩ := T.find hl.kv x w
  cases hx : getL l x with
  | none =>
    rw [hx] at hy
    have hy' : z = ct.enc y := hy
    simp [Instr.lookup, Sem.run_bind, run_underlying T.ty, hg, hc, f1 hx, Result.andThen, T.zero, hy', CT.enc]
  | some v =>
    rw [hx] at hy
    have hy' : v = ct.enc y := hy
    obtain ⟨j, hj, _⟩ := f2 v hx
    simp [Instr.lookup, Sem.run_bind, run_underlying T.ty, hg, hc, hj, Result.andThen, hy', CT.enc]

theorem sem_put {P : Program} {t k e : TypeId} {z : Value} (T : MapTy P t k e z) {u : H} {b : Nat} {l : List (Int × Value)} (h : MapAt u b l) {x : Int} {v : Value} (hx : getL l x = none) {K : H → Prop}
    (hK : ∀ o, MapAt (u.ins b o) b (l ++ [(x, v)]) → K (u.ins b o)) :
    SemT P (unit (Instr.mapUpdate t (.map (some b)) (.int .i64 x) v)) [] u K := by
  obtain ⟨es, c, hb, hl⟩ := h
  intro w hw
  have hg := MapKept.run_getObj_map (P := P) (hw _ _ hb)
  have hj := (T.find hl.kv x w).1 hx
  have hc := T.check false x w
  have hset := MapKept.run_setObj_map (P := P) (.map (es.push { key := .int .i64 x, val := v, born := c }) (c + 1)) (hw _ _ hb)
  refine ⟨_, _, u.ins b (.map (es.push { key := .int .i64 x, val := v, born := c }) (c + 1)), ?_, ⟨[], .nil, rfl, hK _ ⟨_, _, H.ins_same _ _ _, ?_, ?_, ?_, ?_⟩⟩, step_block hw hb _⟩
  · simp [unit, Instr.mapUpdate, Sem.run_bind, run_underlying T.ty, hg, hc, hj, Result.andThen, hset]
    rfl
  · simp [hl.kv, MapEntry.kv, kvOf]
  · rw [Array.toList_push, List.map_append]
    refine List.nodup_append.2 ⟨hl.born, by simp, fun a ha d hd => ?_⟩
    obtain ⟨e', he, rfl⟩ := List.mem_map.1 ha
    have := hl.lt e' he
    simp only [List.map_cons, List.map_nil, List.mem_singleton] at hd
    omega
  · intro e' he
    rw [Array.toList_push] at he
    rcases List.mem_append.1 he with he | he
    · have := hl.lt e' he; omega
    · obtain rfl : e' = _ := by simpa using he
      exact Nat.lt_succ_self c
  · rw [List.map_append]
    refine List.nodup_append.2 ⟨hl.nodup, by simp, fun a ha d hd => ?_⟩
    have := getL_none.1 hx
    simp only [List.map_cons, List.map_nil, List.mem_singleton] at hd
    exact fun e => this (by rw [← hd, ← e]; exact ha)

theorem erase_filter {l : List (Int × Value)} (hn : (l.map (·.1)).Nodup) {j : Nat} {x : Int} {v : Value} (h : l[j]? = some (x, v)) : l.eraseIdx j = l.filter fun p => p.1 != x := by
  induction l generalizing j with
  | nil => simp at h
  | cons p l ih =>
    have h3 := List.nodup_cons.1 hn
    cases j with
    | zero =>
      simp only [List.getElem?_cons_zero, Option.some.injEq] at h
      subst h
      have : l.filter (fun p => p.1 != x) = l := List.filter_eq_self.2 fun q hq => by
        have : q.1 ≠ x := fun e => h3.1 (List.mem_map.2 ⟨q, hq, e⟩)
        simpa using this
      simp [this]
    | succ j =>
      simp only [List.getElem?_cons_succ] at h
      have hp : p.1 ≠ x := fun e => h3.1 (List.mem_map.2 ⟨_, List.mem_of_getElem? h, e.symm⟩)
      rw [List.eraseIdx_cons_succ, ih h3.2 h, List.filter_cons_of_pos (by simpa using hp)]

theorem sem_del {P : Program} {t k e T' kT : TypeId} {z : Value} (T : MapTy P t k e z) {u : H} {b : Nat} {l : List (Int × Value)} (h : MapAt u b l) {x : Int} {K : H → Prop}
    (hK : ∀ o, MapAt (u.ins b o) b (l.filter fun p => p.1 != x) → K (u.ins b o)) :
    SemT P (Builtin.delete_ #[t, kT] T' #[.map (some b), .int .i64 x]) [] u K := by
  obtain ⟨es, c, hb, hl⟩ := h
  intro w hw
  have hg := MapKept.run_getObj_map (P := P) (hw _ _ hb)
  have hc := T.check es.isEmpty x w
  obtain ⟨f1, f2⟩ := T.find hl.kv x w
  cases hx : getL l x with
  | none =>
    have hset := MapKept.run_setObj_map (P := P) (.map es c) (hw _ _ hb)
    have hf : l.filter (fun p => p.1 != x) = l := List.filter_eq_self.2 fun q hq => by
      have : q.1 ≠ x := fun e => getL_none.1 hx (List.mem_map.2 ⟨q, hq, e⟩)
      simpa using this
    refine ⟨_, _, u.ins b (.map es c), ?_, ⟨[], .nil, rfl, hK _ ⟨_, _, H.ins_same _ _ _, by rw [hf]; exact hl⟩⟩, step_block hw hb _⟩
    simp [Builtin.delete_, Sem.run_bind, run_underlying T.ty, hg, hc, f1 hx, Result.andThen, hset]
    rfl
  | some v =>
    obtain ⟨j, hj, hlj⟩ := f2 v hx
    have hset := MapKept.run_setObj_map (P := P) (.map (es.eraseIdxIfInBounds j) c) (hw _ _ hb)
    have het : (es.eraseIdxIfInBounds j).toList = es.toList.eraseIdx j := by simp
    have hsub : (es.toList.eraseIdx j).Sublist es.toList := List.eraseIdx_sublist _ _
    refine ⟨_, _, u.ins b (.map (es.eraseIdxIfInBounds j) c), ?_, ⟨[], .nil, rfl, hK _ ⟨_, _, H.ins_same _ _ _, ?_, ?_, ?_, ?_⟩⟩, step_block hw hb _⟩
    · simp [Builtin.delete_, Sem.run_bind, run_underlying T.ty, hg, hc, hj, Result.andThen, hset]
      rfl
    · have key : ∀ {α β : Type} (f : α → β) (L : List α) (j : Nat), (L.eraseIdx j).map f = (L.map f).eraseIdx j := by
        intro α β f L
        induction L with
        | nil => intro j; rfl
        | cons a L ih => intro j; cases j with
          | zero => rfl
          | succ j => simp [ih j]
      rw [het, key, hl.kv, ← key, erase_filter hl.nodup hlj]
    · rw [het]; exact hl.born.sublist (hsub.map _)
    · intro e' he; rw [het] at he; exact hl.lt e' (hsub.mem he)
    · exact hl.nodup.sublist (List.Sublist.map _ List.filter_sublist)

theorem sem_maplen {P : Program} {t k e T' : TypeId} {z : Value} (T : MapTy P t k e z) {u : H} {b : Nat} {l : List (Int × Value)} (h : MapAt u b l) {K : Int → H → Prop} (hK : K l.length u) :
    SemT P (Builtin.len_ #[t] T' #[.map (some b)]) [.one (.int .i64)] u K := by
  obtain ⟨es, c, hb, hl⟩ := h
  have hlen : es.size = l.length := by have := congrArg List.length hl.kv; simpa using this
  refine .one' (c := .int .i64) (l.length : Int) (fun w hw => ?_) hK
  have hg := MapKept.run_getObj_map (P := P) (hw _ _ hb)
  simp [Builtin.len_, Sem.run_bind, run_underlying T.ty, hg, Result.andThen, hlen]
  rfl

theorem sem_mkmap {P : Program} {t : TypeId} {u : H} {K : Option Nat → H → Prop} (hK : ∀ b o, u b = none → MapAt (u.ins b o) b [] → K (some b) (u.ins b o)) : SemT P (Instr.makeMap t none) [.one .map] u K :=
  .one (c := .map) fun w hw => ⟨some w.heap.size, _, _, Go.RowKit.run_makeMap t w, hK _ _ (hw.none (Nat.le_refl _)) ⟨#[], 0, H.ins_same _ _ _, rfl, by simp, by simp, by simp⟩, Step.newKnown hw _⟩

/-! ### ranges -/

/-- An iterator over a map that stays as it is: what has come. -/
def IterAt (u : H) (r b : Nat) (l dl : List (Int × Value)) : Prop :=
  ∃ es clock seen, u b = some (.map es clock) ∧ Ents es clock l ∧ u r = some (.mapIter (some b) clock seen clock) ∧
    ∃ ds : List MapEntry, seen.toList = ds.map (·.born) ∧ ds.map MapEntry.kv = dl.map kvOf ∧ (∀ d ∈ ds, d ∈ es.toList) ∧ (dl.map (·.1)).Nodup

theorem IterAt.else {u u' : H} {r b : Nat} {l dl : List (Int × Value)} (h : IterAt u r b l dl) (hb : ∀ o, u b = some o → u' b = some o) (hr : ∀ o, u r = some o → u' r = some o) : IterAt u' r b l dl := by
  obtain ⟨es, c, seen, h1, h2, h3, h4⟩ := h
  exact ⟨es, c, seen, hb _ h1, h2, hr _ h3, h4⟩

theorem IterAt.map {u : H} {r b : Nat} {l dl : List (Int × Value)} (h : IterAt u r b l dl) : MapAt u b l := by
  obtain ⟨es, c, seen, h1, h2, _⟩ := h
  exact ⟨es, c, h1, h2⟩

theorem IterAt.sub {u : H} {r b : Nat} {l dl : List (Int × Value)} (h : IterAt u r b l dl) : ∀ p ∈ dl, p ∈ l := by
  obtain ⟨es, c, seen, h1, h2, h3, ds, h4, h5, h6, h7⟩ := h
  intro p hp
  have : kvOf p ∈ ds.map MapEntry.kv := by rw [h5]; exact List.mem_map.2 ⟨p, hp, rfl⟩
  obtain ⟨d, hd, e⟩ := List.mem_map.1 this
  have : kvOf p ∈ l.map kvOf := by rw [← h2.kv, ← e]; exact List.mem_map.2 ⟨d, h6 d hd, rfl⟩
  obtain ⟨q, hq, e⟩ := List.mem_map.1 this
  rw [← kvOf_inj e]; exact hq

theorem IterAt.dn {u : H} {r b : Nat} {l dl : List (Int × Value)} (h : IterAt u r b l dl) : (dl.map (·.1)).Nodup := by
  obtain ⟨es, c, seen, h1, h2, h3, ds, h4, h5, h6, h7⟩ := h
  exact h7

theorem sem_range {P : Program} {t k e : TypeId} {z : Value} (T : MapTy P t k e z) {u : H} {b : Nat} {l : List (Int × Value)} (h : MapAt u b l) {K : Option Addr → H → Prop} (hK : ∀ r o, u r = none → IterAt (u.ins r o) r b l [] → K (some ⟨r, 0, none⟩) (u.ins r o)) :
    SemT P (Instr.range t (.map (some b))) [.one .ptr] u K := by
  obtain ⟨es, c, hb, hl⟩ := h
  refine .one (c := .ptr) fun w hw => ?_
  have hn := hw.none (Nat.le_refl _)
  have hne : b ≠ w.heap.size := fun e => by rw [← e, hb] at hn; cases hn
  refine ⟨some ⟨w.heap.size, 0, none⟩, w.alloc (.mapIter (some b) c #[] c), _, ?_, hK w.heap.size (.mapIter (some b) c #[] c) hn ⟨es, c, #[], by rw [H.ins_other _ _ hne]; exact hb, hl, H.ins_same _ _ _, [], rfl, rfl, fun d hd => (by cases hd), by simp⟩, Step.newKnown hw _⟩
  have hg := MapKept.run_getObj_map (P := P) (hw _ _ hb)
  simp [Instr.range, Sem.run_bind, run_underlying T.ty, hg, Result.andThen, CT.enc]

/-- A visited entry is there, and is that one. -/
theorem ents_find {es : List MapEntry} (hn : (es.map (·.born)).Nodup) {d e : MapEntry} (hd : d ∈ es) (he : e ∈ es) (h : d.born = e.born) : d = e := by
  induction es with
  | nil => cases hd
  | cons x es ih =>
    have h3 := List.nodup_cons.1 hn
    rcases List.mem_cons.1 hd with h1 | h1
    · rcases List.mem_cons.1 he with h2 | h2
      · rw [h1, h2]
      · exact (h3.1 (List.mem_map.2 ⟨e, h2, by rw [← h, h1]⟩)).elim
    · rcases List.mem_cons.1 he with h2 | h2
      · exact (h3.1 (List.mem_map.2 ⟨d, h1, by rw [h, h2]⟩)).elim
      · exact ih h3.2 h1 h2

theorem perm_of_sub {l dl : List (Int × Value)} (hl : (l.map (·.1)).Nodup) (hd : (dl.map (·.1)).Nodup) (h1 : ∀ p ∈ dl, p ∈ l) (h2 : ∀ p ∈ l, p ∈ dl) : dl.Perm l := by
  have nd : ∀ {l : List (Int × Value)}, (l.map (·.1)).Nodup → l.Nodup := fun {l} h => (List.pairwise_map.1 h).imp fun h e => h (by rw [e])
  exact (List.perm_ext_iff_of_nodup (nd hd) (nd hl)).2 fun p => ⟨h1 p, h2 p⟩

theorem nextT_of {P : Program} {u : H} {r b : Nat} {l dl : List (Int × Value)} (h : IterAt u r b l dl) {K0 : H → Prop} {K1 : Value → Value → H → Prop} (h0 : dl.Perm l → K0 u)
    (h1 : ∀ p o, p ∈ l → p.1 ∉ dl.map (·.1) → IterAt (u.ins r o) r b l (dl ++ [p]) → K1 (.int .i64 p.1) p.2 (u.ins r o)) : NextT P (.pointer (some ⟨r, 0, none⟩)) u K0 K1 := by
  have hsub := h.sub
  obtain ⟨es, c, seen, hb, hl, hr, ds, hs1, hs2, hs3, hs4⟩ := h
  intro w hw
  have hne : r ≠ b := fun e => by rw [e, hb] at hr; cases hr
  have hseen : ∀ e ∈ es.toList, seen.contains e.born = true ↔ e ∈ ds := by
    intro e he
    rw [Array.contains_iff_mem, ← Array.mem_toList_iff, hs1, List.mem_map]
    exact ⟨fun ⟨d, hd, e'⟩ => ents_find hl.born (hs3 d hd) he e' ▸ hd, fun hd => ⟨e, hd, rfl⟩⟩
  have hLm : ∀ e ∈ (leftOf es seen).toList, e ∈ es.toList ∧ e ∉ ds := fun e he => by
    unfold leftOf at he
    rw [Array.toList_filter] at he
    have h' := List.mem_filter.1 he
    refine ⟨h'.1, fun hd => ?_⟩
    have := (hseen e h'.1).2 hd
    rw [this] at h'
    simp at h'
  have hLe : ∀ e ∈ es.toList, e ∉ ds → e ∈ (leftOf es seen).toList := fun e he hd => by
    unfold leftOf
    rw [Array.toList_filter]
    refine List.mem_filter.2 ⟨he, ?_⟩
    cases hc : seen.contains e.born with
    | true => exact absurd ((hseen e he).1 hc) hd
    | false => rfl
  rcases run_next_at (P := P) w 0 r b c c seen es c (hw _ _ hr) (hw _ _ hb) hl.lt (Nat.le_refl _) with ⟨hz, hrun⟩ | ⟨e, heL, w1, hst, hrun⟩
  · refine ⟨w, u, .inl ⟨hrun, h0 ?_⟩, Step.refl hw⟩
    have hLnil : leftOf es seen = #[] := Array.eq_empty_of_size_eq_zero hz
    refine perm_of_sub hl.nodup hs4 hsub fun p hp => ?_
    have : kvOf p ∈ es.toList.map MapEntry.kv := by rw [hl.kv]; exact List.mem_map.2 ⟨p, hp, rfl⟩
    obtain ⟨e, he, e1⟩ := List.mem_map.1 this
    have hd : e ∈ ds := Classical.byContradiction fun hn => by
      have := hLe e he hn
      rw [hLnil] at this
      simp at this
    have : kvOf p ∈ dl.map kvOf := by rw [← hs2, ← e1]; exact List.mem_map.2 ⟨e, hd, rfl⟩
    obtain ⟨q, hq, e2⟩ := List.mem_map.1 this
    rw [← kvOf_inj e2]; exact hq
  · have hw1 : Sub u w1 := by rcases hst with rfl | rfl <;> exact hw
    have step1 : Step u [] w u [] w1 := by
      rcases hst with rfl | rfl
      · exact Step.refl hw
      · exact Step.draws hw (Nat.le_succ w.drawn)
    obtain ⟨hes, hnd⟩ := hLm _ heL
    obtain ⟨p, hp, hpk⟩ : ∃ p ∈ l, kvOf p = MapEntry.kv e := by
      have : MapEntry.kv e ∈ l.map kvOf := by rw [← hl.kv]; exact List.mem_map.2 ⟨e, hes, rfl⟩
      obtain ⟨p, hp, e1⟩ := List.mem_map.1 this
      exact ⟨p, hp, e1⟩
    have hk1 : e.key = .int .i64 p.1 := (congrArg Prod.fst hpk).symm
    have hk2 : e.val = p.2 := (congrArg Prod.snd hpk).symm
    have hpd : p.1 ∉ dl.map (·.1) := by
      intro hm
      obtain ⟨q, hq, e1⟩ := List.mem_map.1 hm
      have hql := hsub q hq
      have hqp : q = p := by
        have h1 := (getL_some hl.nodup (x := p.1) (v := q.2)).2 (by rw [← e1]; exact hql)
        have h2 := (getL_some hl.nodup (x := p.1) (v := p.2)).2 hp
        rw [h1] at h2
        cases q; cases p
        simp only [Option.some.injEq] at h2 e1
        rw [h2, e1]
      have : kvOf p ∈ ds.map MapEntry.kv := by rw [hs2, ← hqp]; exact List.mem_map.2 ⟨q, hq, rfl⟩
      obtain ⟨d, hd, e2⟩ := List.mem_map.1 this
      have hde : d = e := by
        have hkd : MapEntry.kv d = MapEntry.kv e := by rw [e2, hpk]
        obtain ⟨m, hm, em⟩ := List.mem_iff_getElem.1 (hs3 d hd)
        obtain ⟨n, hn, en⟩ := List.mem_iff_getElem.1 hes
        have hmn : m = n := by
          have hlen : es.toList.length = l.length := by have := congrArg List.length hl.kv; simpa using this
          have k1 : (l.map kvOf)[m]? = some (MapEntry.kv d) := by rw [← hl.kv, List.getElem?_map, List.getElem?_eq_getElem hm, em]; rfl
          have k2 : (l.map kvOf)[n]? = some (MapEntry.kv e) := by rw [← hl.kv, List.getElem?_map, List.getElem?_eq_getElem hn, en]; rfl
          have k3 : l[m]'(by omega) = l[n]'(by omega) := by
            rw [hkd] at k1
            rw [List.getElem?_map, List.getElem?_eq_getElem (by omega)] at k1 k2
            exact kvOf_inj (Option.some.inj (k1.trans k2.symm))
          rcases Nat.lt_trichotomy m n with h' | h' | h'
          · have := List.pairwise_iff_getElem.1 hl.nodup m n (by simp; omega) (by simp; omega) h'
            simp only [List.getElem_map] at this
            exact absurd (by rw [k3]) this
          · exact h'
          · have := List.pairwise_iff_getElem.1 hl.nodup n m (by simp; omega) (by simp; omega) h'
            simp only [List.getElem_map] at this
            exact absurd (by rw [k3]) this
        subst hmn
        rw [← em, ← en]
      exact hnd (hde ▸ hd)
    refine ⟨_, u.ins r (.mapIter (some b) c (seen.push e.born) c), .inr ⟨_, _, hrun, ?_⟩, step1.trans (step_block hw1 hr _)⟩
    rw [hk1, hk2]
    refine h1 p _ hp hpd ⟨es, c, seen.push e.born, by rw [H.ins_other _ _ (Ne.symm hne)]; exact hb, hl, H.ins_same _ _ _, ds ++ [e], by simp [hs1], ?_, ?_, ?_⟩
    · rw [List.map_append, hs2, List.map_append]; simp [hpk]
    · intro d hd
      rcases List.mem_append.1 hd with hd | hd
      · exact hs3 d hd
      · obtain rfl : d = e := by simpa using hd
        exact hes
    · rw [List.map_append]
      refine List.nodup_append.2 ⟨hs4, by simp, fun a ha d hd => ?_⟩
      simp only [List.map_cons, List.map_nil, List.mem_singleton] at hd
      exact fun e => hpd (by rw [← hd, ← e]; exact ha)

theorem entT_of {P : Program} {u : H} {r b : Nat} {l dl : List (Int × Value)} {p : Int × Value} (h : IterAt u r b l (dl ++ [p])) {K : Value → Value → H → Prop} (hK : K (.int .i64 p.1) p.2 u) : EntT P (.pointer (some ⟨r, 0, none⟩)) u K := by
  obtain ⟨es, c, seen, hb, hl, hr, ds, hs1, hs2, hs3, hs4⟩ := h
  intro w hw
  obtain ⟨ds', e, rfl⟩ : ∃ ds' e, ds = ds' ++ [e] := by
    rcases List.eq_nil_or_concat ds with h | ⟨a, b, h⟩
    · rw [h] at hs2; simp at hs2
    · exact ⟨a, b, by rw [h, List.concat_eq_append]⟩
  have hk : MapEntry.kv e = kvOf p := by
    have := congrArg List.getLast? hs2
    simpa using this
  have hk1 : e.key = .int .i64 p.1 := congrArg Prod.fst hk
  have hk2 : e.val = p.2 := congrArg Prod.snd hk
  have hseen : seen = (ds'.map (·.born)).toArray.push e.born := by
    apply Array.ext'
    rw [hs1]; simp
  rw [hseen] at hr
  have := run_entry_at (P := P) w r b c (ds'.map (·.born)).toArray es c e (hw _ _ hr) (hw _ _ hb) (hs3 e (by simp)) hl.born
  exact ⟨_, _, w, u, this, by rw [hk1, hk2]; exact hK, Step.refl hw⟩

end Go.Proofs.YtncgdoeobblnkaaGreat

/- VcOwn -/
namespace Go.Proofs.YtncgdoeobblnkaaGreat
open Go.Sort Go.Shelf

/-- Rows of one's own: their block, and each vector's. -/
structure RowsO (u0 u : H) (s : Sl) (ls : List Rw) : Prop where
  own : OwnF u0 u 43 2 s (ls.flatMap encR)
  inner : ∀ r ∈ ls, OwnF u0 u 3 1 r.s (r.v.flatMap encI)
  far : ∀ r ∈ ls, Far s r.s
  apart : ls.Pairwise fun a b => Far a.s b.s

theorem RowsO.rws {u0 u : H} {s : Sl} {ls : List Rw} (h : RowsO u0 u s ls) : Rws u s ls := ⟨h.own.own.seg, fun r hr => (h.inner r hr).ints⟩

theorem RowsO.mono {u0 u u' : H} {s : Sl} {ls : List Rw} (h : RowsO u0 u s ls) (k : u.le u') : RowsO u0 u' s ls :=
  ⟨h.own.mono k, fun r hr => (h.inner r hr).mono k, h.far, h.apart⟩

def Rws1 (r : Rw) : Prop := 1 ≤ r.id ∧ r.id ≤ 1000000000

theorem rowSWO : SWO (ltOf fun a b : { r // Rws1 r } => a.1.id - b.1.id) where
  irrefl x := by unfold ltOf; simp
  trans x y z h1 h2 := by unfold ltOf at *; simp only [decide_eq_true_eq] at *; omega
  ntrans x y z h1 h2 := by unfold ltOf at *; simp only [decide_eq_false_iff_not] at *; omega

instance : Inhabited { r // Rws1 r } := ⟨⟨⟨1, ⟨none, 0, 0⟩, []⟩, by unfold Rws1; decide⟩⟩

theorem spec.flat_Own {s : Sl} {l : List Rw} {u : H} {K : Sl → H → Prop} (hs : Rws u s l) (hid : ∀ r ∈ l, 1 ≤ r.id ∧ r.id ≤ 1000000000) (hn : l.length ≤ 1000000) (hv : ∀ r ∈ l, r.v.length ≤ 1000000)
    (hK : ∀ s' ls u', RowsO u u' s' ls → (ls.map Rw.pr).Perm (l.map Rw.pr) → (ls.Pairwise fun a b => a.id ≤ b.id) → K s' u') : C.flat_Own s u K := by
  have hsn := hs.len
  apply vc.flat_Own
  refine sem_make tRows (by omega) (Int.le_refl _) (by omega) (by omega) fun g hg => ?_
  have hmade : ∀ (n : Nat), (madeCells [Value.int .i64 0, .slice none 0 0].toArray (n * 2)).toList = (List.replicate n (⟨0, ⟨none, 0, 0⟩, []⟩ : Rw)).flatMap encR := fun n => made_flat (enc := encR) encR_len (by decide) ⟨0, ⟨none, 0, 0⟩, []⟩ n
  obtain ⟨cs, hcs⟩ : ∃ cs, madeCells [Value.int .i64 0, .slice none 0 0].toArray ((s.n : Int).toNat * 2) = cs := ⟨_, rfl⟩
  have hcl : cs.toList = (List.replicate l.length (⟨0, ⟨none, 0, 0⟩, []⟩ : Rw)).flatMap encR := by rw [← hcs, ← hmade, show (s.n : Int).toNat = l.length by omega]
  rw [hcs]
  have hcz : cs.size = l.length * 2 := by rw [← Array.length_toList, hcl, flat_len encR_len]; simp
  have ho0 : OwnF u (u.ins g (.cells cs 43 (0, 0))) 43 2 ⟨some ⟨g, 0, none⟩, l.length, l.length⟩ ((List.replicate l.length (⟨0, ⟨none, 0, 0⟩, []⟩ : Rw)).flatMap encR) := by
    have := OwnF.make (k := 2) (H.le.refl u) hg (cells := cs) (e := 43) (n := l.length) (by omega) hcz
    rw [hcl] at this
    exact this
  rw [show (s.n : Int).toNat = l.length by omega]
  have hblk : (⟨some ⟨g, 0, none⟩, l.length, l.length⟩ : Sl).blk = some g := rfl
  refine ⟨fun i w => 0 ≤ i ∧ i ≤ l.length ∧ ∃ D : List Rw, D.map Rw.pr = (l.take i.toNat).map Rw.pr ∧ RowsO u w ⟨some ⟨g, 0, none⟩, l.length, l.length⟩ (D ++ List.replicate (l.length - i.toNat) ⟨0, ⟨none, 0, 0⟩, []⟩),
    fun i _ => l.length - i.toNat, ⟨by omega, by omega, [], by simp, ?_⟩, ?_⟩
  · refine ⟨by simpa using ho0, fun r hr => ?_, fun r hr => ?_, ?_⟩
    · simp at hr
      rw [hr.2]
      exact OwnF.nil (H.le_ins _ hg) _ _
    · simp at hr
      rw [hr.2]
      intro x _ hx; simp [Sl.blk] at hx
    · simp only [List.nil_append]
      rw [List.pairwise_replicate]
      exact .inr fun x hx => by simp [Sl.blk] at hx
  rintro i w ⟨i0, i1, D, hD, hR⟩
  have hDl : D.length = i.toNat := by have := congrArg List.length hD; simp at this; omega
  refine ⟨fun hil => ?_, fun hig => ?_⟩
  · obtain ⟨p, hp, r, hr, c0, c1, c2⟩ := (hs.mono hR.own.le).at i0 hil
    have hrm : r ∈ l := List.mem_of_getElem? hr
    have hrv := c2.len
    have := hv r hrm
    refine ⟨p, hp, ⟨i0, hil⟩, _, c0, _, c1, spec.slices_Clone___int_int_ c2 (by omega) fun s9 u10 ho9 hn9 => ⟨ho9.le, _, rfl, ⟨i0, by show i < ((l.length : Nat) : Int); omega⟩, ?_⟩⟩
    have hR10 := hR.mono ho9.le
    refine OwnF.store (enc := encR) encR_len hR10.own (by decide) (i := i.toNat) (by simp; omega) (y := ⟨r.id, s9, r.v⟩) (encR_one _) rfl fun u12 ho12 he12 _ => ⟨⟨by omega, by omega⟩, ⟨by omega, by omega, D ++ [⟨r.id, s9, r.v⟩], ?_, ?_⟩, by dsimp only; omega⟩
    · rw [show (i + 1).toNat = i.toNat + 1 by omega, List.take_add_one, hr, List.map_append, hD]
      simp [Rw.pr]
    · have hset : (D ++ List.replicate (l.length - i.toNat) (⟨0, ⟨none, 0, 0⟩, []⟩ : Rw)).set i.toNat ⟨r.id, s9, r.v⟩ = D ++ [⟨r.id, s9, r.v⟩] ++ List.replicate (l.length - (i + 1).toNat) ⟨0, ⟨none, 0, 0⟩, []⟩ := by
        rw [show l.length - i.toNat = (l.length - (i + 1).toNat) + 1 by omega, List.replicate_succ, ← hDl, set_mid]
        simp
      rw [hset] at ho12
      -- blocks
      have hold : ∀ x ∈ D, OwnF u w 3 1 x.s (x.v.flatMap encI) := fun x hx => hR.inner x (List.mem_append_left _ hx)
      have hgk : w g ≠ none := own_known hR.own hblk
      have hs9g : s9.blk ≠ some g := fun e => hgk (ho9.fresh g e)
      have hfarD : ∀ x ∈ D, Far x.s s9 := fun x hx c hc hc' => own_known (hold x hx) hc (ho9.fresh c hc')
      have hDg : ∀ x ∈ D, Far ⟨some ⟨g, 0, none⟩, l.length, l.length⟩ x.s := fun x hx => hR.far x (List.mem_append_left _ hx)
      refine ⟨ho12, fun x hx => ?_, fun x hx => ?_, ?_⟩
      · rcases List.mem_append.1 hx with hx | hx
        · rcases List.mem_append.1 hx with hx | hx
          · exact OwnF.else (e := 0) ((hold x hx).mono ho9.le) he12 (fun c hc => hR.own.fresh c hc) fun c hc => hDg x hx c hc
          · simp at hx
            subst hx
            exact OwnF.else (e := 0) (ho9.weaken hR.own.le) he12 (fun c hc => hR.own.fresh c hc) fun c hc => by
              have : c = g := by rw [hblk] at hc; exact (Option.some.inj hc).symm
              rw [this]; exact hs9g
        · rw [(List.mem_replicate.1 hx).2]
          exact OwnF.nil (ho12.le) _ _
      · rcases List.mem_append.1 hx with hx | hx
        · rcases List.mem_append.1 hx with hx | hx
          · exact hDg x hx
          · simp at hx
            subst hx
            intro c hc
            have : c = g := by rw [hblk] at hc; exact (Option.some.inj hc).symm
            rw [this]; exact hs9g
        · rw [(List.mem_replicate.1 hx).2]
          intro c _ hc; simp [Sl.blk] at hc
      · have hap := (List.pairwise_append.1 hR.apart).1
        refine List.pairwise_append.2 ⟨List.pairwise_append.2 ⟨hap, by simp, fun x hx y hy => ?_⟩, ?_, fun x hx y hy => ?_⟩
        · simp at hy; subst hy; exact hfarD x hx
        · rw [List.pairwise_replicate]
          exact .inr fun c hc => by simp [Sl.blk] at hc
        · rw [(List.mem_replicate.1 hy).2]
          intro c _ hc; simp [Sl.blk] at hc
  · have hil : i.toNat = l.length := by
      have : ¬ i < (s.n : Int) := hig
      omega
    rw [hil, Nat.sub_self, List.replicate_zero, List.append_nil] at hR
    rw [hil, List.take_length] at hD
    have hin : ∀ r ∈ D, Rws1 r := fun r hr => by
      have : r.pr ∈ l.map Rw.pr := by rw [← hD]; exact List.mem_map.2 ⟨r, hr, rfl⟩
      obtain ⟨r', hr', e⟩ := List.mem_map.1 this
      have h1 := hid r' hr'
      have : r'.id = r.id := congrArg Prod.fst e
      unfold Rws1; rw [← this]; exact h1
    obtain ⟨E, hE⟩ : ∃ E : List { r // Rws1 r }, E.map (·.1) = D := ⟨D.attachWith _ hin, by simp⟩
    have hown := hR.own
    rw [← hE] at hown
    refine spec.slices_SortFunc__api_Row_ (val := fun r : { r // Rws1 r } => r.1) rowSWO (enters_of Tryz.func92 (by kernel_rfl) rfl) (fun a b v => ?_) hown (by have := congrArg List.length hE; simp at this; omega) fun u2 E' hp hsrt ho2 he2 => hK _ (E'.map (·.1)) _ ?_ ?_ ?_
    · have ha := a.2
      have hb := b.2
      unfold Rws1 at ha hb
      exact vc.flat_Own_1 a.1.id a.1.s b.1.id b.1.s v (fun z' u2 => z' = a.1.id - b.1.id ∧ u2 = v) ⟨⟨by omega, by omega⟩, rfl, rfl⟩
    · have hpm : (E'.map (·.1)).Perm D := by rw [← hE]; exact hp.map _
      have hmem : ∀ x ∈ E'.map (·.1), x ∈ D := fun x hx => hpm.mem_iff.1 hx
      exact ⟨ho2, fun r hr => OwnF.else (e := 0) (hR.inner r (hmem r hr)) he2 (fun c hc => hR.own.fresh c hc) fun c hc => hR.far r (hmem r hr) c hc, fun r hr => hR.far r (hmem r hr), hR.apart.perm hpm.symm fun h => h.symm⟩
    · rw [← hD, ← hE]
      exact ((hp.map (·.1)).map Rw.pr)
    · rw [List.pairwise_map]
      exact hsrt.imp fun h => by omega

/-- The error of a row that is to be put. -/
def mayErr (id : Int) (v : List Int) (d : Int) (there : Bool) (many : Int) : Int :=
  if id < 1 ∨ 1000000000 < id then 50 else if vcheck v d ≠ 0 then vcheck v d else if there = false ∧ 512 ≤ many then 2 else 0

theorem spec.flat_May {id : Int} {s : Sl} {v : List Int} {d : Int} {there : Bool} {many : Int} {u : H} {K : Int → H → Prop} (hs : Ints u s v) (h : K (mayErr id v d there many) u) : C.flat_May id s d there many u K := by
  apply vc.flat_May
  refine spec.vec_Check hs ?_
  intro K2 hK2
  have go : ∀ bb : Bool, (bb = true ↔ (id < 1 ∨ 1000000000 < id)) → K2 bb u := fun bb hb => hK2 bb u ⟨fun e => ?_, fun e => ⟨fun hne => ?_, fun he => ⟨fun ht => ⟨fun hm => ?_, fun hm => ?_⟩, fun ht => ?_⟩⟩⟩
  · exact ⟨fun h1 => go true ⟨fun _ => .inl h1, fun _ => rfl⟩, fun h1 => go _ ⟨fun e => .inr (by simpa using e), fun e => by simp; omega⟩⟩
  · unfold mayErr at h; rw [if_pos (hb.1 e)] at h; exact h
  all_goals
    have hnb : ¬ (id < 1 ∨ 1000000000 < id) := fun e2 => by rw [hb.2 e2] at e; cases e
    unfold mayErr at h
    rw [if_neg hnb] at h
  · rw [if_pos hne] at h; exact h
  · rw [if_neg (by simpa using he), if_pos ⟨by simpa using ht, hm⟩] at h; exact h
  · rw [if_neg (by simpa using he), if_neg (fun h2 => hm h2.2)] at h; exact h
  · rw [if_neg (by simpa using he), if_neg (fun h2 => by rw [ht] at h2; cases h2.1)] at h; exact h

/-- The error of a question. -/
def askErr (q : List Int) (d k b : Int) : Int := if vcheck q d ≠ 0 then vcheck q d else if k < 1 ∨ 64 < k ∨ b < 0 ∨ 1000000 < b then 1 else 0

theorem spec.flat_Asked {t : Sl} {q : List Int} {d k b : Int} {u : H} {K : Int → H → Prop} (ht : Ints u t q) (h : K (askErr q d k b) u) : C.flat_Asked t d k b u K := by
  unfold askErr at h
  apply vc.flat_Asked
  refine spec.vec_Check ht ⟨fun hne => by rw [if_pos hne] at h; exact h, fun he => ?_⟩
  rw [if_neg (by simpa using he)] at h
  by_cases hbad : k < 1 ∨ 64 < k ∨ b < 0 ∨ 1000000 < b
  · rw [if_pos hbad] at h
    exact ⟨fun _ => h, fun k1 => ⟨fun _ => h, fun k2 => ⟨fun _ => h, fun b1 => ⟨fun _ => h, fun b2 => by omega⟩⟩⟩⟩
  · rw [if_neg hbad] at h
    exact ⟨fun k1 => by omega, fun _ => ⟨fun k2 => by omega, fun _ => ⟨fun b1 => by omega, fun _ => ⟨fun b2 => by omega, fun _ => h⟩⟩⟩⟩

theorem spec.theodolitekeep_Rows {s t : Sl} {a c : List Rw} {u : H} {K : Bool → H → Prop} (hs : Rws u s a) (ht : Rws u t c) (h : K (decide (a.map Rw.pr = c.map Rw.pr)) u) : C.theodolitekeep_Rows s t u K := by
  have key : ∀ z, decide (a.map Rw.pr = c.map Rw.pr) = z → K z u := fun z e => e ▸ h
  have hn := hs.len
  have hm := ht.len
  have hx := hs.max
  apply vc.theodolitekeep_Rows
  refine ⟨fun hne => key false ?_, fun heq => ?_⟩
  · refine decide_eq_false fun e => hne ?_
    have := congrArg List.length e
    simp at this
    omega
  refine ⟨fun _ i w => w = u ∧ 0 ≤ i ∧ i ≤ a.length ∧ (a.take i.toNat).map Rw.pr = (c.take i.toNat).map Rw.pr, fun _ i _ => a.length - i.toNat, ⟨rfl, by omega, by omega, by simp⟩, ?_⟩
  rintro bb i w ⟨rfl, i0, i1, hsame⟩
  refine ⟨fun hil => ?_, fun hig => ?_⟩
  · intro K5 hK5
    obtain ⟨p, hp, r, hr, c0, c1, c2⟩ := hs.at i0 hil
    obtain ⟨q, hq, r', hr', d0, d1, d2⟩ := ht.at (x := i) i0 (by omega)
    have bad : r.pr ≠ r'.pr → K false w := fun hne => key false (decide_eq_false fun e => hne (by
      have := congrArg (fun z => z[i.toNat]?) e
      simp only [List.getElem?_map, hr, hr', Option.map_some, Option.some.injEq] at this
      exact this))
    refine ⟨p, hp, ⟨i0, hil⟩, q, hq, ⟨i0, by omega⟩, _, c0, _, d0, fun hne => bad fun e => hne (congrArg Prod.fst e), fun hid => ⟨p, hp, ⟨i0, hil⟩, q, hq, ⟨i0, by omega⟩, _, c1, _, d1, spec.theodolitekeep_Ints c2 d2 ⟨fun hne => bad fun e => hne ?_, fun hv => hK5 _ _ ⟨⟨by omega, by omega⟩, ⟨rfl, by omega, by omega, ?_⟩, by dsimp only; omega⟩⟩⟩⟩
    · rw [decide_eq_true_eq]; exact congrArg Prod.snd e
    · rw [show (i + 1).toNat = i.toNat + 1 by omega, List.take_add_one, List.take_add_one, hr, hr', List.map_append, List.map_append, hsame]
      have : r.pr = r'.pr := by
        unfold Rw.pr
        rw [hid, of_decide_eq_true hv]
      simp [this]
  · have hil : i.toNat = a.length := by
      have : ¬ i < (s.n : Int) := hig
      omega
    rw [List.take_of_length_le (by omega), List.take_of_length_le (by omega)] at hsame
    exact key true (decide_eq_true hsame)

theorem askErr_ok {q : List Int} {d k b : Int} : askErr q d k b = 0 ↔ vcheck q d = 0 ∧ 1 ≤ k ∧ k ≤ 64 ∧ 0 ≤ b ∧ b ≤ 1000000 := by
  unfold askErr
  by_cases h1 : vcheck q d = 0
  · rw [if_neg (by simpa using h1)]
    by_cases h2 : k < 1 ∨ 64 < k ∨ b < 0 ∨ 1000000 < b
    · rw [if_pos h2]; constructor
      · intro h; cases h
      · rintro ⟨_, h3⟩; omega
    · rw [if_neg h2]; exact ⟨fun _ => ⟨h1, by omega⟩, fun _ => rfl⟩
  · rw [if_pos h1]
    exact ⟨fun h => absurd h h1, fun h => absurd h.1 h1⟩

end Go.Proofs.YtncgdoeobblnkaaGreat

/- VcVp1 -/
namespace Go.Proofs.YtncgdoeobblnkaaGreat.Vp

theorem spec.cut {ub u : H} {tb src : Nat} {d leaf : Int} {s : Sl} {l : List Rw} {K : Option Addr → H → Prop} (hlf : 1 ≤ leaf) (tl : ub.cell? ((Addr.mk tb 0 none).add 1) = some (.int .i64 leaf)) (ts : ub.cell? ((Addr.mk tb 0 none).add 2) = some (.pointer (some ⟨src, 0, none⟩))) (hus : ub src = none) (hst : SrcAt u src) (hss : s.blk ≠ some src)
    (ho : OwnF ub u 43 2 s (l.flatMap encR)) (hv : ∀ r ∈ l, Ints ub r.s r.v) (hok : Rok l d) (h0 : l = [] → ∀ u', u.le u' → K none u') (hK : l ≠ [] → ∀ u' n, CutS ub u src s l d u' n → K (some ⟨n.b, 0, none⟩) u') : C.vptree_Tree__cut (some ⟨tb, 0, none⟩) s u K := by
  have hub := ho.le
  apply vc.vptree_Tree__cut
  intro n0 hn0 n1 hn1
  obtain ⟨o0, ho0⟩ : ∃ o0, o0 = (Obj.cells #[Value.pointer (some ⟨tb, 0, none⟩)] 30 (0, 0)) := ⟨_, rfl⟩
  rw [← ho0] at hn1 ⊢
  have hn01 : n0 ≠ n1 := fun e => by rw [← e, H.ins_same] at hn1; cases hn1
  have hn1u : u n1 = none := by rw [H.ins_other _ _ (Ne.symm hn01)] at hn1; exact hn1
  refine st_new (zs := [.nilFunc]) rfl (by simp [Value.oneCell']) ?_
  obtain ⟨o1, ho1⟩ : ∃ o1, o1 = (Obj.cells [cutV n0 n1].toArray 89 (0, 0)) := ⟨_, rfl⟩
  rw [← ho1]
  obtain ⟨u2, hu2⟩ : ∃ u2, u2 = (u.ins n0 o0).ins n1 o1 := ⟨_, rfl⟩
  rw [← hu2]
  have lu2 : u.le u2 := by rw [hu2]; exact (H.le_ins _ hn0).trans (H.le_ins _ hn1)
  have d0 : u2 n0 = some o0 := by rw [hu2, H.ins_other _ _ hn01, H.ins_same]
  have d1 : u2 n1 = some o1 := by rw [hu2, H.ins_same]
  obtain ⟨ub2, hub2⟩ : ∃ ub2 : H, ub2 = fun c => if c = n0 then some o0 else if c = n1 then some o1 else ub c := ⟨_, rfl⟩
  have b0 : ub2 n0 = some o0 := by rw [hub2]; exact if_pos rfl
  have b1 : ub2 n1 = some o1 := by
    rw [hub2]
    show (if n1 = n0 then _ else if n1 = n1 then _ else _) = _
    rw [if_neg (Ne.symm hn01), if_pos rfl]
  have b2 : ∀ {c}, c ≠ n0 → c ≠ n1 → ub2 c = ub c := fun {c} h1 h2 => by
    rw [hub2]
    show (if c = n0 then _ else if c = n1 then _ else _) = _
    rw [if_neg h1, if_neg h2]
  have lb : ub.le ub2 := fun c o hc => by
    rw [b2 (fun e => by rw [e, hub.none hn0] at hc; cases hc) (fun e => by rw [e, hub.none hn1u] at hc; cases hc)]
    exact hc
  have lb2 : ub2.le u2 := fun c o hc => by
    by_cases e0 : c = n0
    · rw [e0, b0] at hc; rw [e0, d0]; exact hc
    · by_cases e1 : c = n1
      · rw [e1, b1] at hc; rw [e1, d1]; exact hc
      · rw [b2 e0 e1] at hc; exact lu2 c o (hub c o hc)
  have ho2 : OwnF ub2 u2 43 2 s (l.flatMap encR) := ⟨(ho.mono lu2).own, lb2, fun g hg => by
    rw [b2 (fun e => own_known ho hg (by rw [e]; exact hn0)) (fun e => own_known ho hg (by rw [e]; exact hn1u))]
    exact ho.fresh g hg⟩
  have hin : CutIn ub2 n0 n1 tb src leaf := ⟨by rw [ho0] at b0; exact H.cell?_of b0 0, by rw [ho1] at b1; exact H.cell?_of b1 0, H.le.cell lb tl, H.le.cell lb ts⟩
  obtain ⟨st, hst⟩ := hst
  have us2 : ub2 src = none := by
    rw [b2 (fun e => by rw [← e, hst] at hn0; cases hn0) (fun e => by rw [← e, hst] at hn1u; cases hn1u)]
    exact hus
  refine ⟨_, H.le.cell lb2 hin.c1, .inl ⟨_, _, _, rfl, bodyOf bCut, ?_⟩⟩
  exact spec.cut1 hlf l.length (Nat.le_refl _) hin us2 ⟨st, lu2 _ _ hst⟩ hss ho2 (fun r hr => (hv r hr).mono lb) hok (fun e => h0 e u2 lu2) fun hne u' n hc => hK hne u' n ⟨hc.one, hc.nodup, fun c hm => ⟨lb.none (hc.out c hm).1, (hc.out c hm).2⟩, hc.all, hc.ok, hc.rows, hc.size, fun c o h1 h2 h3 => hc.else' c o (lu2 c o h1) h2 h3, hc.src, hc.shp, hc.bin⟩

/-! ### the tree -/
inductive Tg where
  | tree | map | node | vec | src

structure Tr where
  dim : Int
  leaf : Int
  src : Nat
  root : Option PN
  m : Nat
  w : List (Int × (Sl × List Int))
  gas : Nat

def Tr.links (T : Tr) : Int := T.leaf
def treeC (T : Tr) : List Value := [.int .i64 T.dim, .int .i64 T.leaf, .pointer (some ⟨T.src, 0, none⟩), .pointer (T.root.map fun n => ⟨n.b, 0, none⟩), .map (some T.m)]
def entL (w : List (Int × (Sl × List Int))) : List (Int × Value) := w.map fun e => (e.1, .slice e.2.1.a e.2.1.n e.2.1.c)

structure TrAt (fp : Nat → Option Tg) (u : H) (b : Nat) (T : Tr) : Prop where
  cell : u b = some (.cells (treeC T).toArray 87 (0, 0))
  btag : fp b = some .tree
  map : MapAt u T.m (entL T.w)
  mtag : fp T.m = some .map
  src : SrcAt u T.src
  stag : fp T.src = some .src
  vec : ∀ e ∈ T.w, Ints u e.2.1 e.2.2 ∧ ∀ g, e.2.1.blk = some g → fp g = some .vec
  one : ∀ n, T.root = some n → (∀ x ∈ n.heads, PhAt u x) ∧ n.own.Nodup ∧ (∀ c ∈ n.own, fp c = some .node) ∧ ∀ x ∈ n.heads, ∀ r ∈ x.1.rows, ∀ g, r.s.blk = some g → fp g = some .vec

theorem TrAt.keep {fp fp' : Nat → Option Tg} {u u' : H} {b : Nat} {T : Tr} (h : TrAt fp u b T) (hf : ∀ c, fp c ≠ none → fp' c = fp c) (hu : ∀ c o, u c = some o → fp c ≠ none → u' c = some o) : TrAt fp' u' b T where
  cell := hu _ _ h.cell (by rw [h.btag]; simp)
  btag := by rw [hf _ (by rw [h.btag]; simp)]; exact h.btag
  map := h.map.else fun o ho => hu _ _ ho (by rw [h.mtag]; simp)
  mtag := by rw [hf _ (by rw [h.mtag]; simp)]; exact h.mtag
  src := h.src.elim fun st hs => ⟨st, hu _ _ hs (by rw [h.stag]; simp)⟩
  stag := by rw [hf _ (by rw [h.stag]; simp)]; exact h.stag
  vec e he := by
    obtain ⟨h1, h2⟩ := h.vec e he
    exact ⟨Seg.else h1 fun g o hg ho => hu g o ho (by rw [h2 g hg]; simp), fun g hg => by rw [hf g (by rw [h2 g hg]; simp)]; exact h2 g hg⟩
  one n hn := by
    obtain ⟨h1, h2, h3, h4⟩ := h.one n hn
    refine ⟨fun x hx => (h1 x hx).keep (fun c o hc ho => hu c o ho (by rw [h3 c (List.mem_flatMap.2 ⟨x, hx, hc⟩)]; simp)) fun r hr => Seg.else ((h1 x hx).vec r hr) fun g o hg ho => hu g o ho (by rw [h4 x hx r hr g hg]; simp), h2, fun c hc => by rw [hf c (by rw [h3 c hc]; simp)]; exact h3 c hc, fun x hx r hr g hg => by rw [hf g (by rw [h4 x hx r hr g hg]; simp)]; exact h4 x hx r hr g hg⟩

theorem keep : KeepG TrAt := ⟨fun h hf hu => h.keep hf hu⟩
abbrev In := InG TrAt

def rootAll (T : Tr) : List Prw := match T.root with
  | none => []
  | some n => n.pt.all

def ixRows (X : Tr) : List (Int × List Int) := X.w.map fun e => (e.1, e.2.2)

structure TOk (T : Tr) : Prop where
  dm : 1 ≤ T.dim ∧ T.dim ≤ 64
  lf : 1 ≤ T.leaf ∧ T.leaf ≤ 64
  ids : ∀ e ∈ T.w, 1 ≤ e.1 ∧ e.1 ≤ 1000000000
  vec : ∀ e ∈ T.w, (e.2.2.length : Int) = T.dim ∧ vok e.2.2
  small : T.w.length ≤ 512
  rows : (rootAll T).Perm (ixRows T)
  ok : ∀ n, T.root = some n → PtOk T.dim n.pt
  shp : ∀ n, T.root = some n → PtSh 3 n.pt
  bin : ∀ n, T.root = some n → PtBin n.pt
  size : ∀ n, T.root = some n → n.heads.length ≤ 1100 * T.gas + 2000

theorem mapTy : MapTy Tryz.prog 85 3 41 (.slice none 0 0) := ⟨by kernel_rfl, by kernel_rfl, fun _ => by kernel_rfl⟩
theorem ent_len (T : Tr) : (entL T.w).length = (ixRows T).length := by simp [entL, ixRows]

theorem TrAt.wnodup {fp : Nat → Option Tg} {u : H} {b : Nat} {T : Tr} (h : TrAt fp u b T) : ((ixRows T).map (·.1)).Nodup := by
  obtain ⟨es, cl, _, he⟩ := h.map
  have := he.nodup
  unfold entL at this
  rw [List.map_map] at this
  unfold ixRows
  rw [List.map_map]
  exact this

theorem spec.Len {u0 u : H} {fp : Nat → Option Tg} {b : Nat} {T : Tr} {K : Int → H → Prop} (h : In u0 u fp b T) (hK : K (ixRows T).length u) : C.vptree_Tree__Len (some ⟨b, 0, none⟩) u K := by
  apply vc.vptree_Tree__Len
  refine ⟨fun e => (by cases e), fun _ => ⟨_, rfl, _, H.cell?_of h.tr.cell 4, sem_maplen mapTy h.tr.map ?_⟩⟩
  rw [ent_len]
  exact hK

end Go.Proofs.YtncgdoeobblnkaaGreat.Vp

/- VcVp2 -/
namespace Go.Proofs.YtncgdoeobblnkaaGreat.Vp

structure DelRes (u0 u : H) (fp : Nat → Option Tg) (b : Nat) (T : Tr) (id : Int) (u' : H) (fp' : Nat → Option Tg) (T' : Tr) : Prop where
  is : In u0 u' fp' b T'
  turn : TurnG u fp u' fp'
  ok : TOk T'
  rows : ixRows T' = (ixRows T).filter fun x => x.1 != id
  dim : T'.dim = T.dim
  leaf : T'.leaf = T.leaf
  gas : T'.gas = T.gas

theorem getE (w : List (Int × (Sl × List Int))) (x : Int) : (getL (entL w) x = none ∧ x ∉ w.map (·.1)) ∨ ∃ e, e ∈ w ∧ e.1 = x ∧ getL (entL w) x = some (.slice e.2.1.a e.2.1.n e.2.1.c) := by
  cases h : getL (entL w) x with
  | none =>
    left
    have := getL_none.1 h
    unfold entL at this
    rw [List.map_map] at this
    exact ⟨rfl, this⟩
  | some v =>
    right
    have := getL_mem h
    obtain ⟨e, he, e2⟩ := List.mem_map.1 this
    have e3 : e.1 = x := congrArg Prod.fst e2
    have e4 : Value.slice e.2.1.a e.2.1.n e.2.1.c = v := congrArg Prod.snd e2
    exact ⟨e, he, e3, by rw [e4]⟩

theorem keys_ix (T : Tr) : (ixRows T).map (·.1) = T.w.map (·.1) := by unfold ixRows; rw [List.map_map]; rfl

theorem ent_filter (w : List (Int × (Sl × List Int))) (id : Int) : (entL w).filter (fun p => p.1 != id) = entL (w.filter fun e => e.1 != id) := by
  unfold entL
  rw [List.filter_map]
  rfl

theorem spec.Delete {u0 u : H} {fp : Nat → Option Tg} {b : Nat} {T : Tr} {id : Int} {K : Bool → Int → H → Prop} (h : In u0 u fp b T) (hT : TOk T) (hgas : T.gas ≤ 4000) (hno : id ∉ T.w.map (·.1) → ∀ u', u.le u' → K false 0 u')
    (hyes : id ∈ T.w.map (·.1) → ∀ u' fp' T', DelRes u0 u fp b T id u' fp' T' → K true 0 u') : C.vptree_Tree__Delete (some ⟨b, 0, none⟩) id u K := by
  apply vc.vptree_Tree__Delete
  intro n0 hn0
  obtain ⟨u1, hu1⟩ : ∃ u1, u1 = u.ins n0 (.cells #[.int .i64 id] 3 (0, 0)) := ⟨_, rfl⟩
  have l1 : u.le u1 := by rw [hu1]; exact H.le_ins _ hn0
  have d0 : u1 n0 = some (.cells #[.int .i64 id] 3 (0, 0)) := by rw [hu1]; exact H.ins_same _ _ _
  rw [← hu1]
  have i1 := InG.mono keep h l1
  have tr := i1.tr
  refine ⟨fun e => (by cases e), fun _ => ⟨_, rfl, _, H.cell?_of tr.cell 4, id, H.cell?_of d0 0, ?_⟩⟩
  rcases getE T.w id with ⟨hg, hm⟩ | ⟨e, he, hid, hg⟩
  · refine sem_get2 mapTy tr.map (ct := .slice) (⟨none, 0, 0⟩ : Sl) (by rw [hg]; rfl) ⟨fun _ => hno hm u1 l1, fun hx => ?_⟩
    rw [hg] at hx; cases hx
  · have hin : id ∈ T.w.map (·.1) := List.mem_map.2 ⟨e, he, hid⟩
    refine sem_get2 mapTy tr.map (ct := .slice) e.2.1 (by rw [hg]; rfl) ⟨fun hx => ?_, fun _ => ?_⟩
    · rw [hg] at hx; exact absurd rfl hx
    refine ⟨_, rfl, _, H.cell?_of tr.cell 4, id, H.cell?_of d0 0, ?_⟩
    refine sem_del mapTy tr.map fun o hmap => ?_
    obtain ⟨u10, hu10⟩ : ∃ u10, u10 = u1.ins T.m o := ⟨_, rfl⟩
    rw [← hu10] at hmap ⊢
    have mb : ∀ {c}, fp c ≠ some .map → c ≠ T.m := fun hc e => hc (by rw [e]; exact tr.mtag)
    have e10 : ∀ c o, u1 c = some o → c ≠ T.m → u10 c = some o := fun c o' hc hne => by rw [hu10, H.ins_other _ _ hne]; exact hc
    have m10 : u10 T.m = some o := by rw [hu10]; exact H.ins_same _ _ _
    have n0m : n0 ≠ T.m := fun e => by
      have := h.known T.m (by rw [h.tr.mtag]; simp)
      rw [← e] at this; exact this hn0
    intro n11 hn11
    refine st_new (zs := [.nilFunc]) rfl (by simp [Value.oneCell']) ?_
    obtain ⟨o11, ho11⟩ : ∃ o11, o11 = (Obj.cells [Value.func (.func 51) #[] #[.pointer (some ⟨n0, 0, none⟩), .pointer (some ⟨n11, 0, none⟩)]].toArray 102 (0, 0)) := ⟨_, rfl⟩
    rw [← ho11]
    obtain ⟨u12, hu12⟩ : ∃ u12, u12 = u10.ins n11 o11 := ⟨_, rfl⟩
    rw [← hu12]
    have l12 : u10.le u12 := by rw [hu12]; exact H.le_ins _ hn11
    have d11 : u12 n11 = some o11 := by rw [hu12]; exact H.ins_same _ _ _
    have e12 : ∀ c o', u1 c = some o' → c ≠ T.m → u12 c = some o' := fun c o' hc hne => l12 c o' (e10 c o' hc hne)
    have c12 : u12 b = some (.cells (treeC T).toArray 87 (0, 0)) := e12 b _ tr.cell (mb (by rw [tr.btag]; simp))
    -- there is a root
    obtain ⟨n, hn⟩ : ∃ n, T.root = some n := by
      cases hr : T.root with
      | some n => exact ⟨n, rfl⟩
      | none =>
        have h1 := hT.rows.length_eq
        unfold rootAll at h1
        rw [hr] at h1
        have h2 := List.length_pos_of_mem he
        simp [ixRows] at h1
        omega
    obtain ⟨q1, q2, q3, q4⟩ := tr.one n hn
    have hcr : u12.cell? ((Addr.mk b 0 none).add 3) = some (.pointer (some ⟨n.b, 0, none⟩)) := by
      have hx : treeC T = [.int .i64 T.dim, .int .i64 T.leaf, .pointer (some ⟨T.src, 0, none⟩), .pointer (some ⟨n.b, 0, none⟩), .map (some T.m)] := by simp [treeC, hn]
      rw [hx] at c12
      exact H.cell?_of c12 3
    refine ⟨_, rfl, _, by rw [ho11] at d11; exact H.cell?_of d11 0, _, hcr, _, _, _, rfl, bodyOf bDrop, ?_⟩
    -- what the drop leaves alone
    obtain ⟨ub, hub⟩ : ∃ ub : H, ub = fun c => open Classical in if c ∈ n.own then none else u12 c := ⟨_, rfl⟩
    have ub1 : ∀ {c}, c ∈ n.own → ub c = none := fun hc => by rw [hub]; exact if_pos hc
    have ub2 : ∀ {c}, c ∉ n.own → ub c = u12 c := fun hc => by rw [hub]; exact if_neg hc
    have lub : ub.le u12 := fun c o' hc => by
      by_cases e : c ∈ n.own
      · rw [ub1 e] at hc; cases hc
      · rw [ub2 e] at hc; exact hc
    have notown : ∀ {c}, fp c ≠ some .node → c ∉ n.own := fun hc e => hc (q3 _ e)
    have n0own : n0 ∉ n.own := fun e => h.known n0 (by rw [q3 n0 e]; simp) hn0
    have n11own : n11 ∉ n.own := fun e => by
      have h1 := i1.known n11 (by rw [q3 n11 e]; simp)
      obtain ⟨o', ho'⟩ := Option.ne_none_iff_exists'.1 h1
      have := e10 n11 o' ho' (mb (by rw [q3 n11 e]; simp))
      rw [hn11] at this; cases this
    have hc0 : ub.cell? ⟨n0, 0, none⟩ = some (.int .i64 id) := by
      have z0 : ub n0 = some (.cells #[.int .i64 id] 3 (0, 0)) := by rw [ub2 n0own]; exact e12 _ _ d0 n0m
      exact H.cell?_of z0 0
    have hc1 : ub.cell? ⟨n11, 0, none⟩ = some (.func (.func 51) #[] #[.pointer (some ⟨n0, 0, none⟩), .pointer (some ⟨n11, 0, none⟩)]) := by
      have z1 : ub n11 = some o11 := by rw [ub2 n11own]; exact d11
      rw [ho11] at z1
      exact H.cell?_of z1 0
    have hph : ∀ x ∈ n.heads, PhAt u12 x := fun x hx => (q1 x hx).keep (fun c o' hc ho' => e12 c o' ho' (mb (by rw [q3 c (List.mem_flatMap.2 ⟨x, hx, hc⟩)]; simp))) fun r hr => Seg.else ((q1 x hx).vec r hr) fun g o' hg ho' => e12 g o' ho' (mb (by rw [q4 x hx r hr g hg]; simp))
    have hvec : ∀ x ∈ n.heads, ∀ r ∈ x.1.rows, Ints ub r.s r.v := fun x hx r hr => Seg.else ((q1 x hx).vec r hr) fun g o' hg ho' => by
      rw [ub2 (notown (by rw [q4 x hx r hr g hg]; simp))]
      exact e12 g o' ho' (mb (by rw [q4 x hx r hr g hg]; simp))
    have hsz := hT.size n hn
    refine spec.drop hc0 hc1 n lub hph q2 (fun c hc => ub1 hc) hvec (by omega) fun u16 n' hd hel hkn => ?_
    have e16 : ∀ c o', u1 c = some o' → c ≠ T.m → c ∉ n.own → u16 c = some o' := fun c o' hc hne hno' => hel c o' (e12 c o' hc hne) hno'
    have b16 : u16 b = some (.cells (treeC T).toArray 87 (0, 0)) := e16 b _ tr.cell (mb (by rw [tr.btag]; simp)) (notown (by rw [tr.btag]; simp))
    have hmap16 : MapAt u16 T.m (entL (T.w.filter fun e => e.1 != id)) := by
      rw [← ent_filter]
      exact hmap.else fun o' ho' => hel _ _ (l12 _ _ ho') (notown (by rw [tr.mtag]; simp))
    have vec16 : ∀ {s : Sl} {v : List Int}, Ints u1 s v → (∀ g, s.blk = some g → fp g = some .vec) → Ints u16 s v := fun hi hg => Seg.else hi fun g o' hg' ho' => e16 g o' ho' (mb (by rw [hg g hg']; simp)) (notown (by rw [hg g hg']; simp))
    obtain ⟨T', hT'⟩ : ∃ T' : Tr, T' = { T with root := some n', w := T.w.filter fun e => e.1 != id } := ⟨_, rfl⟩
    have hfil : ixRows T' = (ixRows T).filter fun x => x.1 != id := by
      rw [hT']
      unfold ixRows
      rw [List.filter_map]
      rfl
    have k16 : ∀ c, u1 c ≠ none → u16 c ≠ none := fun c hc => hkn c fun e => by
      by_cases e2 : c = T.m
      · rw [e2, l12 _ _ m10] at e; cases e
      · obtain ⟨o', ho'⟩ := Option.ne_none_iff_exists'.1 hc
        rw [e12 c o' ho' e2] at e; cases e
    refine hyes hin u16 fp T' ⟨⟨?_, fun c o' hc => ?_, h.out, fun c hc => k16 c (i1.known c hc)⟩, ⟨fun c o' hc hf => e16 c o' (l1 c o' hc) (mb (by rw [hf]; simp)) (notown (by rw [hf]; simp)), fun c hc => .inl hc⟩, ?_, hfil, by rw [hT'], by rw [hT'], by rw [hT']⟩
    · subst hT'
      refine ⟨?_, tr.btag, hmap16, tr.mtag, tr.src.elim fun st hs => ⟨st, e16 _ _ hs (mb (by rw [tr.stag]; simp)) (notown (by rw [tr.stag]; simp))⟩, tr.stag, fun e' he' => ?_, fun n2 hn2 => ?_⟩
      · rw [b16]
        simp [treeC, hn, hd.b]
      · obtain ⟨v1, v2⟩ := tr.vec e' (List.mem_filter.1 he').1
        exact ⟨vec16 v1 v2, v2⟩
      · obtain rfl := Option.some.inj (show some n' = some n2 from hn2)
        exact ⟨hd.one, by rw [hd.own]; exact q2, fun c hc => q3 c (by rw [← hd.own]; exact hc), fun x hx r hr g hg => by
          obtain ⟨y, hy, hry⟩ := hd.rows x hx r hr
          exact q4 y hy r hry g hg⟩
    · have hf0 := h.out
      have h1 := h.le c o' hc
      have hf : fp c = none := by
        cases e : fp c with
        | none => rfl
        | some t => have := h.out c (by rw [e]; simp); rw [hc] at this; cases this
      exact e16 c o' (l1 c o' h1) (mb (by rw [hf]; simp)) (notown (by rw [hf]; simp))
    · have hpt := hT.ok n hn
      refine ⟨by rw [hT']; exact hT.dm, by rw [hT']; exact hT.lf, fun e' he' => ?_, fun e' he' => ?_, ?_, ?_, fun n2 hn2 => ?_, fun n2 hn2 => ?_, fun n2 hn2 => ?_, fun n2 hn2 => ?_⟩
      · rw [hT'] at he'; exact hT.ids e' (List.mem_filter.1 he').1
      · rw [hT'] at he' ⊢; exact hT.vec e' (List.mem_filter.1 he').1
      · rw [hT']; exact Nat.le_trans (List.length_filter_le _ _) hT.small
      · rw [hfil]
        have hr := hT.rows
        rw [hT']
        unfold rootAll at hr ⊢
        rw [hn] at hr
        show n'.pt.all.Perm _
        rw [hd.pt, Pt.del_all]
        exact hr.filter _
      · rw [hT'] at hn2 ⊢
        obtain rfl := Option.some.inj (show some n' = some n2 from hn2)
        rw [hd.pt]
        exact Pt.del_ok hpt
      · rw [hT'] at hn2
        obtain rfl := Option.some.inj (show some n' = some n2 from hn2)
        rw [hd.pt]
        exact (hT.shp n hn).del
      · rw [hT'] at hn2
        obtain rfl := Option.some.inj (show some n' = some n2 from hn2)
        rw [hd.pt]
        exact (hT.bin n hn).del
      · rw [hT'] at hn2 ⊢
        obtain rfl := Option.some.inj (show some n' = some n2 from hn2)
        rw [← PN.pt_size, hd.pt, Pt.del_size, PN.pt_size]
        exact hsz

end Go.Proofs.YtncgdoeobblnkaaGreat.Vp

/- VcPop -/
namespace Go.Proofs.YtncgdoeobblnkaaGreat

theorem spec.pop_part {v u : H} {n : Nat} {l : List Op1} {K : Value → H → Prop} (h : PQ v u n l) (hh : Hp blt l.length l) (hne : 0 < l.length)
    (hK : ∀ u' m, PQ v u' n (popF blt l) → PartAt v m (l.getD 0 default).2 → K (queI ((⟨m, 0, none⟩ : Addr), l.getD 0 default)) u') : C.heap_Pop (queV n) u K := by
  obtain ⟨L, hQ, hL, hall⟩ := h.ex
  have hlen : L.length = l.length := by rw [← hL, List.length_map]
  have hget : ∀ i, l.getD i default = (L.getD i default).2 := fun i => by
    rw [← hL]
    exact getD_map' (f := fun e : QE => e.2) rfl L i
  have hhL : Hp qlt L.length L := fun i i0 i1 => by
    have := hh i i0 (by omega)
    rw [hget, hget] at this
    exact this
  obtain ⟨p1, _, _, _⟩ := popF_ok queLt hhL (by omega)
  refine spec.heap_PopF (queHeap v n) queLt (V := queI) hQ hhL (by omega) (fun {u' l' x K'} hs hk => ?_) fun u' hs => ?_
  · refine que_pop hs (by simp) fun u'' hs'' => ?_
    rw [List.dropLast_concat] at hs''
    have e : (l' ++ [x]).getD ((l' ++ [x]).length - 1) default = x := by
      rw [List.getD_eq_getElem?_getD]
      simp
    rw [e]
    exact hk u'' hs''
  · have h0 : L.getD 0 default ∈ L := by
      rw [List.getD_eq_getElem?_getD, List.getElem?_eq_getElem (by omega)]
      exact List.getElem_mem (by omega)
    obtain ⟨m, hm, hp⟩ := hall _ h0
    have e : L.getD 0 default = ((⟨m, 0, none⟩ : Addr), l.getD 0 default) := by rw [hget, ← hm]
    rw [e]
    refine hK u' m ⟨popF qlt L, hs, ?_, fun y hy => hall y (p1.mem_iff.1 (List.mem_cons_of_mem _ hy))⟩ (by rw [hget]; exact hp)
    have e2 := popF_map (α := QE) (β := Op1) (lt := qlt) (lt' := blt) (f := fun e : QE => e.2) rfl (fun _ _ => rfl) L
    rw [hL] at e2
    exact e2

end Go.Proofs.YtncgdoeobblnkaaGreat

/- VcRest -/
namespace Go.Proofs.YtncgdoeobblnkaaGreat

theorem tRegs' : elemT Tryz.prog 51 = some (93, 6, 96, [.int .i64 0, .slice none 0 0, .slice none 0 0, .int .u64 0, .int .u64 0, .slice none 0 0]) := by kernel_rfl

structure RestAt (u0 u : H) (sr : Sl) (rest : List Rgn) : Prop where
  own : OwnF u0 u 93 6 sr (rest.flatMap encG)
  each : ∀ r ∈ rest, Own3 u0 u r
  far : (sr :: rest.flatMap Rgn.sls).Pairwise Far

theorem RestAt.mono {u0 u u' : H} {sr : Sl} {rest : List Rgn} (h : RestAt u0 u sr rest) (k : u.le u') : RestAt u0 u' sr rest :=
  ⟨h.own.mono k, fun r hr => ⟨(h.each r hr).l.mono k, (h.each r hr).h.mono k, (h.each r hr).i.mono k⟩, h.far⟩

theorem RestAt.nil {u0 u : H} (h : u0.le u) : RestAt u0 u ⟨none, 0, 0⟩ [] := ⟨OwnF.nil h _ _, fun r hr => (by cases hr), by rw [List.flatMap_nil]; exact List.pairwise_singleton _ _⟩

/-- Every slice of regions of one's own is known. -/
theorem own3_sls {u0 u : H} {r : Rgn} (h : Own3 u0 u r) : ∀ s ∈ r.sls, ∃ xs, OwnF u0 u 3 1 s xs := by
  intro s hs
  simp only [Rgn.sls, List.mem_cons, List.not_mem_nil, or_false] at hs
  rcases hs with rfl | rfl | rfl
  · exact ⟨_, h.l⟩
  · exact ⟨_, h.h⟩
  · exact ⟨_, h.i⟩

theorem rest_push {u0 u1 u : H} {sr : Sl} {rest : List Rgn} {r : Rgn} {K : Sl → H → Prop} (h : RestAt u0 u1 sr rest) (hu : u1.le u) (hr : Own3 u1 u r) (f1 : Far r.ls r.hs) (f2 : Far r.ls r.is) (f3 : Far r.hs r.is) (hl : rest.length ≤ 10000000)
    (hK : ∀ s' u', RestAt u0 u' s' (rest ++ [r]) → Else u u' sr → (∀ g, s'.blk = some g → sr.blk = some g ∨ u g = none) → K s' u') :
    SemT Tryz.prog (Instr.buildSlice 51 1 #[(0, .agg #[.int .i64 r.sh, .slice r.ls.a r.ls.n r.ls.c, .slice r.hs.a r.hs.n r.hs.c, .int .u64 (hiW r.rad), .int .u64 (loW r.rad), .slice r.is.a r.is.n r.is.c])]) [.one .slice] u fun s1 v1 => u.le v1 ∧ SemT Tryz.prog (Builtin.append_ #[51, 51] 51 #[.slice sr.a sr.n sr.c, .slice s1.a s1.n s1.c]) [.one .slice] v1 K := by
  have hm := h.mono hu
  have hn : sr.n = rest.length := flat_n encG_len (by decide) hm.own.own.seg
  have u01 : u0.le u1 := h.own.le
  have hr0 : Own3 u0 u r := ⟨hr.l.weaken u01, hr.h.weaken u01, hr.i.weaken u01⟩
  have hall : ∀ x ∈ rest ++ [r], Own3 u0 u x := fun x hx => by
    rcases List.mem_append.1 hx with hx | hx
    · exact hm.each x hx
    · rw [List.mem_singleton.1 hx]; exact hr0
  have farNew : ∀ s ∈ r.sls, Far sr s ∧ ∀ t ∈ rest.flatMap Rgn.sls, Far t s := fun s hs => by
    obtain ⟨xs, hx⟩ := own3_sls hr s hs
    refine ⟨OwnF.far h.own (H.le.refl u1) hx, fun t ht => ?_⟩
    obtain ⟨y, hy, hty⟩ := List.mem_flatMap.1 ht
    obtain ⟨ys, hy2⟩ := own3_sls (h.each y hy) t hty
    exact OwnF.far hy2 (H.le.refl u1) hx
  have hf := h.far
  rw [List.pairwise_cons] at hf
  refine sem_push tRegs' (build_region r.ls r.hs r.is r.sh (hiW r.rad) (loW r.rad)) (by decide) rfl (by simp [Value.oneCell']) hm.own (by omega) (by omega) fun s' u' ho hn' hel hbl _ => hK s' u' ⟨?_, fun x hx => ?_, ?_⟩ hel hbl
  · rw [List.flatMap_append]
    exact ho
  · have hk : Keep [sr] u u' := fun b o hb hd => hel b o hb (hd sr (List.mem_cons_self ..))
    refine hk.own3 (hall x hx) (fun s hs g hg => by rw [List.mem_singleton.1 hs] at hg; exact hm.own.fresh g hg) fun s hs t ht => ?_
    rw [List.mem_singleton.1 hs]
    rcases List.mem_append.1 hx with hx | hx
    · exact hf.1 t (List.mem_flatMap.2 ⟨x, hx, ht⟩)
    · rw [List.mem_singleton.1 hx] at ht; exact (farNew t ht).1
  · rw [List.flatMap_append, List.pairwise_cons]
    have hsing : [r].flatMap Rgn.sls = r.sls := by simp
    rw [hsing]
    refine ⟨fun t ht => ?_, List.pairwise_append.2 ⟨hf.2, ?_, fun t ht s hs => (farNew s hs).2 t ht⟩⟩
    · intro g hg hg2
      have hfar : Far sr t := by
        rcases List.mem_append.1 ht with h1 | h1
        · exact hf.1 t h1
        · exact (farNew t h1).1
      have hown : ∃ xs, OwnF u0 u 3 1 t xs := by
        rcases List.mem_append.1 ht with h1 | h1
        · obtain ⟨y, hy, hty⟩ := List.mem_flatMap.1 h1
          exact own3_sls (hm.each y hy) t hty
        · exact own3_sls hr0 t h1
      obtain ⟨xs, hx⟩ := hown
      rcases hbl g hg with h1 | h1
      · exact hfar g h1 hg2
      · exact own_known hx hg2 h1
    · simp only [Rgn.sls, List.pairwise_cons, List.mem_cons, List.not_mem_nil, or_false, forall_eq_or_imp, forall_eq, List.Pairwise.nil, and_true]
      exact ⟨⟨f1, f2⟩, f3, fun _ h => h.elim⟩

end Go.Proofs.YtncgdoeobblnkaaGreat

/- VcWlk0 -/
namespace Go.Proofs.YtncgdoeobblnkaaGreat

/-- What lies beside a part of memory that turns. -/
theorem Framed.beside {v a u a' u' b : H} (hf : Framed a u a' u') (hva' : v.le a') (hb : b.le u) (hvb : v.le b) (hap : ∀ c, a c ≠ none → b c ≠ none → v c ≠ none) : b.le u' ∧ ∀ c, a' c ≠ none → b c ≠ none → v c ≠ none := by
  refine ⟨fun c o hc => ?_, fun c h1 h2 => ?_⟩
  · cases e : a c with
    | none => exact (hf.out c o e (hb c o hc)).2
    | some o' =>
      obtain ⟨o2, h2⟩ := Option.ne_none_iff_exists'.1 (hap c (by rw [e]; simp) (by rw [hc]; simp))
      have h3 := hvb c o2 h2
      rw [hc] at h3
      cases h3
      exact hf.le c o (hva' c o h2)
  · cases e : a c with
    | none =>
      obtain ⟨o, ho⟩ := Option.ne_none_iff_exists'.1 h2
      exact absurd (hf.out c o e (hb c o ho)).1 h1
    | some o' => exact hap c (by rw [e]; simp) h2

structure WI (v u : H) (N n6 : Nat) (k : Int) (S : List Hit) (l : List Op1) (ids : List Int) (ss sr : Sl) (R : List Rgn) : Prop where
  ex : ∃ uT uQ, uT.le u ∧ uQ.le u ∧ v.le uT ∧ v.le uQ ∧ (∀ c, uT c ≠ none → uQ c ≠ none → v c ≠ none) ∧ TopAt v N k uT S ∧ PQ v uQ n6 l ∧ (∀ s ∈ ss :: sr :: R.flatMap Rgn.sls, ∀ g, s.blk = some g → uT g = none ∧ uQ g = none)
  seen : OwnF v u 3 1 ss (ids.flatMap encI)
  rest : RestAt v u sr R
  far : ∀ s ∈ sr :: R.flatMap Rgn.sls, Far ss s

theorem WI.le {v u : H} {N n6 : Nat} {k : Int} {S : List Hit} {l : List Op1} {ids : List Int} {ss sr : Sl} {R : List Rgn} (h : WI v u N n6 k S l ids ss sr R) : v.le u := h.seen.le

/-- All slices of one's own are known. -/
theorem WI.known {v u : H} {N n6 : Nat} {k : Int} {S : List Hit} {l : List Op1} {ids : List Int} {ss sr : Sl} {R : List Rgn} (h : WI v u N n6 k S l ids ss sr R) : ∀ s ∈ ss :: sr :: R.flatMap Rgn.sls, ∀ g, s.blk = some g → u g ≠ none := by
  intro s hs g hg
  rcases List.mem_cons.1 hs with rfl | hs
  · exact own_known h.seen hg
  · rcases List.mem_cons.1 hs with rfl | hs
    · exact own_known h.rest.own hg
    · obtain ⟨y, hy, hty⟩ := List.mem_flatMap.1 hs
      obtain ⟨xs, hx⟩ := own3_sls (h.rest.each y hy) s hty
      exact own_known hx hg

/-- Slices of one's own stay where their blocks do. -/
theorem RestAt.stay {v u u' : H} {sr : Sl} {R : List Rgn} (h : RestAt v u sr R) (hv : v.le u') (hs : ∀ s ∈ sr :: R.flatMap Rgn.sls, ∀ g o, s.blk = some g → u g = some o → u' g = some o) : RestAt v u' sr R := by
  have one : ∀ {e k : Nat} {s : Sl} {xs : List Value}, OwnF v u e k s xs → s ∈ sr :: R.flatMap Rgn.sls → OwnF v u' e k s xs := fun ho hm => ⟨ho.own.le fun b o hb hu => hs _ hm b o hb hu, hv, ho.fresh⟩
  refine ⟨one h.own (List.mem_cons_self ..), fun r hr => ?_, h.far⟩
  have hm : ∀ s ∈ r.sls, s ∈ sr :: R.flatMap Rgn.sls := fun s hs => List.mem_cons_of_mem _ (List.mem_flatMap.2 ⟨r, hr, hs⟩)
  exact ⟨one (h.each r hr).l (hm _ (by simp [Rgn.sls])), one (h.each r hr).h (hm _ (by simp [Rgn.sls])), one (h.each r hr).i (hm _ (by simp [Rgn.sls]))⟩

theorem spec.wi_Offer {v u : H} {N n6 : Nat} {k : Int} {S : List Hit} {l : List Op1} {ids : List Int} {ss sr : Sl} {R : List Rgn} {x : Hit} {K : Bool → H → Prop} (h : WI v u N n6 k S l ids ss sr R) (k1 : 1 ≤ k) (k2 : k ≤ 64)
    (hK : ∀ b u', WI v u' N n6 k (x :: S) l ids ss sr R → K b u') : C.topk_Heap__Offer (some ⟨N, 0, none⟩) x.1 (hiW x.2) (loW x.2) u K := by
  obtain ⟨uT, uQ, t1, q1, t2, q2, hap, hT, hQ, hfr⟩ := h.ex
  have hc := spec.topk_Heap__Offer (K := fun _ u' => TopAt v N k u' (x :: S)) hT k1 k2 fun b u' h' => h'
  refine hc.frame t1 ?_
  intro b uT' u' hf hT'
  have hv' := hT'.le
  obtain ⟨b1, b2⟩ := hf.beside hv' q1 q2 hap
  have stay : ∀ s ∈ ss :: sr :: R.flatMap Rgn.sls, ∀ g o, s.blk = some g → u g = some o → uT' g = none ∧ u' g = some o := fun s hs g o hg ho => hf.out g o (hfr s hs g hg).1 ho
  refine hK b u' ⟨⟨uT', uQ, hf.le, b1, hv', q2, b2, hT', hQ, fun s hs g hg => ?_⟩, ⟨h.seen.own.le fun g o hg ho => (stay _ (List.mem_cons_self ..) g o hg ho).2, hv'.trans hf.le, h.seen.fresh⟩, h.rest.stay (hv'.trans hf.le) fun s hs g o hg ho => (stay s (List.mem_cons_of_mem _ hs) g o hg ho).2, h.far⟩
  obtain ⟨o, ho⟩ := Option.ne_none_iff_exists'.1 (h.known s hs g hg)
  exact ⟨(stay s hs g o hg ho).1, (hfr s hs g hg).2⟩

/-- A step of the queue. -/
theorem WI.queue {v u uT uQ uQ' u' : H} {N n6 : Nat} {k : Int} {S : List Hit} {l l' : List Op1} {ids : List Int} {ss sr : Sl} {R : List Rgn} (h : WI v u N n6 k S l ids ss sr R) (t1 : uT.le u) (t2 : v.le uT) (hap : ∀ c, uT c ≠ none → uQ c ≠ none → v c ≠ none)
    (hT : TopAt v N k uT S) (hfr : ∀ s ∈ ss :: sr :: R.flatMap Rgn.sls, ∀ g, s.blk = some g → uT g = none ∧ uQ g = none) (hf : Framed uQ u uQ' u') (hv' : v.le uQ') (hQ' : PQ v uQ' n6 l') : WI v u' N n6 k S l' ids ss sr R := by
  obtain ⟨b1, b2⟩ := hf.beside hv' t1 t2 fun c h1 h2 => hap c h2 h1
  have stay : ∀ s ∈ ss :: sr :: R.flatMap Rgn.sls, ∀ g o, s.blk = some g → u g = some o → uQ' g = none ∧ u' g = some o := fun s hs g o hg ho => hf.out g o (hfr s hs g hg).2 ho
  refine ⟨⟨uT, uQ', b1, hf.le, t2, hv', fun c h1 h2 => b2 c h2 h1, hT, hQ', fun s hs g hg => ?_⟩, ⟨h.seen.own.le fun g o hg ho => (stay _ (List.mem_cons_self ..) g o hg ho).2, hv'.trans hf.le, h.seen.fresh⟩, h.rest.stay (hv'.trans hf.le) fun s hs g o hg ho => (stay s (List.mem_cons_of_mem _ hs) g o hg ho).2, h.far⟩
  obtain ⟨o, ho⟩ := Option.ne_none_iff_exists'.1 (h.known s hs g hg)
  exact ⟨(hfr s hs g hg).1, (stay s hs g o hg ho).1⟩

end Go.Proofs.YtncgdoeobblnkaaGreat

/- VcWlk1 -/
namespace Go.Proofs.YtncgdoeobblnkaaGreat

theorem PQ.le {v u : H} {n : Nat} {l : List Op1} (h : PQ v u n l) : v.le u := by
  obtain ⟨L, hQ, _, _⟩ := h.ex
  obtain ⟨s, _, ho, _⟩ := hQ.ex
  exact ho.le

theorem spec.wi_add {v u : H} {N n6 n0 m : Nat} {k : Int} {S : List Hit} {l : List Op1} {ids : List Int} {ss sr : Sl} {R : List Rgn} {s : Sl} {q : List Int} {p : Pt} {K : H → Prop} (h : WI v u N n6 k S l ids ss sr R) (hl : l.length < 10000000) (hp : PartAt v m p)
    (hok : RegOk (p.rgn []) q.length) (hq : vok q) (hn0 : v.cell? ⟨n0, 0, none⟩ = some (.slice s.a s.n s.c)) (hs : Ints v s q) (hK : ∀ u', WI v u' N n6 k S (addW q l p) ids ss sr R → K u') : C.flat_Walk_1 (some ⟨m, 0, none⟩) ⟨n0, 0, none⟩ ⟨n6, 0, none⟩ u K := by
  obtain ⟨uT, uQ, t1, q1, t2, q2, hap, hT, hQ, hfr⟩ := h.ex
  have hc := spec.flat_Walk_1 (K := fun u' => PQ v u' n6 (addW q l p)) hQ q2 hl hp hok hq (q2.cell hn0) (hs.mono q2) fun u' h' => h'
  refine hc.frame q1 ?_
  intro uQ' u' hf hQ'
  exact hK u' (h.queue t1 t2 hap hT hfr hf hQ'.le hQ')

theorem spec.wi_pop {v u : H} {N n6 : Nat} {k : Int} {S : List Hit} {l : List Op1} {ids : List Int} {ss sr : Sl} {R : List Rgn} {K : Value → H → Prop} (h : WI v u N n6 k S l ids ss sr R) (hh : Hp blt l.length l) (hne : 0 < l.length)
    (hK : ∀ u' m, WI v u' N n6 k S (popF blt l) ids ss sr R → PartAt v m (l.getD 0 default).2 → K (queI ((⟨m, 0, none⟩ : Addr), l.getD 0 default)) u') : C.heap_Pop (queV n6) u K := by
  obtain ⟨uT, uQ, t1, q1, t2, q2, hap, hT, hQ, hfr⟩ := h.ex
  have hc := spec.pop_part (K := fun x u' => ∃ m, x = queI ((⟨m, 0, none⟩ : Addr), l.getD 0 default) ∧ PQ v u' n6 (popF blt l) ∧ PartAt v m (l.getD 0 default).2) hQ hh hne fun u' m h1 h2 => ⟨m, rfl, h1, h2⟩
  refine hc.frame q1 ?_
  rintro x uQ' u' hf ⟨m, rfl, hQ', hp⟩
  exact hK u' m (h.queue t1 t2 hap hT hfr hf hQ'.le hQ') hp

theorem TopAt.whole {v u uT : H} {N : Nat} {k : Int} {S : List Hit} (h : TopAt v N k uT S) (hu : uT.le u) : TopAt v N k u S := h.mono hu

theorem spec.wi_done {v u : H} {N n6 n4 : Nat} {k hi lo : Int} {S : List Hit} {l : List Op1} {ids : List Int} {ss sr : Sl} {R : List Rgn} {K : Bool → H → Prop} (h : WI v u N n6 k S l ids ss sr R) (k1 : 1 ≤ k) (hd : ∀ g ∈ S, Dok g.2)
    (hn4 : v.cell? ⟨n4, 0, none⟩ = some (.pointer (some ⟨N, 0, none⟩))) (h1 : U64 hi) (h2 : U64 lo) (hK : ∀ bb : Bool, (bb = true ↔ k ≤ (S.length : Int) ∧ ((topk k.toNat S).getD (k.toNat - 1) default).2 < wv hi lo) → K bb u) : C.flat_Walk_2 hi lo ⟨n4, 0, none⟩ u K := by
  obtain ⟨uT, uQ, t1, q1, t2, q2, hap, hT, hQ, hfr⟩ := h.ex
  exact spec.flat_Walk_2 (hT.whole t1) k1 hd (h.le.cell hn4) h1 h2 hK

end Go.Proofs.YtncgdoeobblnkaaGreat

/- VcWlk2 -/
namespace Go.Proofs.YtncgdoeobblnkaaGreat

theorem le_none {a u : H} (h : a.le u) {g : Nat} (hg : u g = none) : a g = none := by
  cases e : a g with
  | none => rfl
  | some o => have := h g o e; rw [hg] at this; cases this

/-- An id more is seen. -/
theorem wi_see {v u : H} {N n6 : Nat} {k : Int} {S : List Hit} {l : List Op1} {ids : List Int} {ss sr : Sl} {R : List Rgn} {x : Int} {K : Sl → H → Prop} (h : WI v u N n6 k S l ids ss sr R) (hl : ids.length < 10000000)
    (hK : ∀ s' u', WI v u' N n6 k S l (ids ++ [x]) s' sr R → K s' u') :
    SemT Tryz.prog (Instr.buildSlice 41 1 #[(0, .int .i64 x)]) [.one .slice] u fun s1 u1 => SemT Tryz.prog (Builtin.append_ #[41, 41] 41 #[.slice ss.a ss.n ss.c, .slice s1.a s1.n s1.c]) [.one .slice] u1 K := by
  obtain ⟨uT, uQ, t1, q1, t2, q2, hap, hT, hQ, hfr⟩ := h.ex
  have hn := h.seen.ints.len
  refine sem_push' tInts (build_int _) (by decide) rfl (by simp [Value.oneCell']) h.seen (by omega) (by omega) fun s' u' ho hn' hel hbl _ => hK s' u' ?_
  have fresh : ∀ g, s'.blk = some g → uT g = none ∧ uQ g = none := fun g hg => by
    rcases hbl g hg with h1 | h1
    · exact hfr ss (List.mem_cons_self ..) g h1
    · exact ⟨le_none t1 h1, le_none q1 h1⟩
  have stayO : ∀ {w : H}, w.le u → (∀ g, ss.blk = some g → w g = none) → w.le u' := fun hw hg b o hb => hel b o (hw b o hb) fun e => by rw [hg b e] at hb; cases hb
  have far' : ∀ s ∈ sr :: R.flatMap Rgn.sls, Far s' s := fun s hs g hg hg2 => by
    rcases hbl g hg with h1 | h1
    · exact h.far s hs g h1 hg2
    · exact h.known s (List.mem_cons_of_mem _ hs) g hg2 h1
  refine ⟨⟨uT, uQ, stayO t1 fun g hg => (hfr ss (List.mem_cons_self ..) g hg).1, stayO q1 fun g hg => (hfr ss (List.mem_cons_self ..) g hg).2, t2, q2, hap, hT, hQ, fun s hs g hg => ?_⟩, ?_, h.rest.stay ho.le fun s hs g o hg ho' => hel g o ho' fun e => h.far s hs g e hg, far'⟩
  · rcases List.mem_cons.1 hs with rfl | hs
    · exact fresh g hg
    · exact hfr s (List.mem_cons_of_mem _ hs) g hg
  · rw [List.flatMap_append]
    exact ho

/-- A region more is left. -/
theorem wi_left {v u w : H} {N n6 : Nat} {k : Int} {S : List Hit} {l : List Op1} {ids : List Int} {ss sr : Sl} {R : List Rgn} {r : Rgn} {K : Sl → H → Prop} (h : WI v u N n6 k S l ids ss sr R) (hw : u.le w) (hr : Own3 u w r) (f1 : Far r.ls r.hs) (f2 : Far r.ls r.is) (f3 : Far r.hs r.is) (hl : R.length ≤ 10000000)
    (hK : ∀ s' u', WI v u' N n6 k S l ids ss s' (R ++ [r]) → Else w u' sr → (∀ g, s'.blk = some g → sr.blk = some g ∨ w g = none) → K s' u') :
    SemT Tryz.prog (Instr.buildSlice 51 1 #[(0, .agg #[.int .i64 r.sh, .slice r.ls.a r.ls.n r.ls.c, .slice r.hs.a r.hs.n r.hs.c, .int .u64 (hiW r.rad), .int .u64 (loW r.rad), .slice r.is.a r.is.n r.is.c])]) [.one .slice] w fun s1 v1 => w.le v1 ∧ SemT Tryz.prog (Builtin.append_ #[51, 51] 51 #[.slice sr.a sr.n sr.c, .slice s1.a s1.n s1.c]) [.one .slice] v1 K := by
  obtain ⟨uT, uQ, t1, q1, t2, q2, hap, hT, hQ, hfr⟩ := h.ex
  refine rest_push h.rest hw hr f1 f2 f3 hl fun s' u' hR hel hbl => hK s' u' ?_ hel hbl
  have newS : ∀ s ∈ r.sls, ∃ xs, OwnF u w 3 1 s xs := own3_sls hr
  have fresh : ∀ s ∈ ss :: s' :: (R ++ [r]).flatMap Rgn.sls, ∀ g, s.blk = some g → uT g = none ∧ uQ g = none := fun s hs g hg => by
    rcases List.mem_cons.1 hs with rfl | hs
    · exact hfr _ (List.mem_cons_self ..) g hg
    · rcases List.mem_cons.1 hs with rfl | hs
      · rcases hbl g hg with h1 | h1
        · exact hfr sr (by simp) g h1
        · exact ⟨le_none (t1.trans hw) h1, le_none (q1.trans hw) h1⟩
      · rw [List.flatMap_append] at hs
        rcases List.mem_append.1 hs with hs | hs
        · exact hfr s (by simp only [List.mem_cons]; exact .inr (.inr hs)) g hg
        · obtain ⟨xs, hx⟩ := newS s (by simpa using hs)
          exact ⟨le_none t1 (hx.fresh g hg), le_none q1 (hx.fresh g hg)⟩
  have farR : Far ss sr := h.far sr (List.mem_cons_self ..)
  have keep : ∀ {z : H}, z.le u → (∀ g, sr.blk = some g → z g = none) → z.le u' := fun hz hg b o hb => hel b o (hw b o (hz b o hb)) fun e => by rw [hg b e] at hb; cases hb
  refine ⟨⟨uT, uQ, keep t1 fun g hg => (hfr sr (by simp) g hg).1, keep q1 fun g hg => (hfr sr (by simp) g hg).2, t2, q2, hap, hT, hQ, fresh⟩, ⟨h.seen.own.le fun b o hb ho => hel b o (hw b o ho) fun e => farR b hb e, hR.own.le, h.seen.fresh⟩, hR, fun s hs => ?_⟩
  rcases List.mem_cons.1 hs with rfl | hs
  · intro g hg hg2
    rcases hbl g hg2 with h1 | h1
    · exact farR g hg h1
    · have := own_known h.seen hg
      exact this (le_none hw h1)
  · rw [List.flatMap_append] at hs
    rcases List.mem_append.1 hs with hs | hs
    · exact h.far s (List.mem_cons_of_mem _ hs)
    · obtain ⟨xs, hx⟩ := newS s (by simpa using hs)
      exact OwnF.far h.seen (H.le.refl u) hx

end Go.Proofs.YtncgdoeobblnkaaGreat

/- VcWlk3 -/
namespace Go.Proofs.YtncgdoeobblnkaaGreat

/-- The queue as it lies there. -/
theorem PQ.slice {v u : H} {n : Nat} {l : List Op1} (h : PQ v u n l) : ∃ s : Sl, u.cell? ⟨n, 0, none⟩ = some (.slice s.a s.n s.c) ∧ s.n = l.length ∧ ∀ x : Int, 0 ≤ x → x < (s.n : Int) → ∃ p m e, s.a = some p ∧ l[x.toNat]? = some e ∧ PartAt v m e.2 ∧
    u.cell? (p.add (x.toNat * 3)) = some (.pointer (some ⟨m, 0, none⟩)) ∧ u.cell? ((p.add (x.toNat * 3)).add 1) = some (.int .u64 (hiW e.1)) ∧ u.cell? ((p.add (x.toNat * 3)).add 2) = some (.int .u64 (loW e.1)) := by
  obtain ⟨L, hQ, hL, hall⟩ := h.ex
  obtain ⟨s, hn, ho, _⟩ := hQ.ex
  refine ⟨s, H.cell?_of hn 0, by rw [ho.qs.len, ← hL, List.length_map], fun x x0 x1 => ?_⟩
  obtain ⟨p, hp, y, hy, c0, c1, c2⟩ := ho.qs.at x0 x1
  obtain ⟨m, hm, hpart⟩ := hall y (List.mem_of_getElem? hy)
  refine ⟨p, m, y.2, hp, by rw [← hL, List.getElem?_map, hy]; rfl, hpart, ?_, c1, c2⟩
  rw [hm] at c0
  exact c0

theorem WI.slice {v u : H} {N n6 : Nat} {k : Int} {S : List Hit} {l : List Op1} {ids : List Int} {ss sr : Sl} {R : List Rgn} (h : WI v u N n6 k S l ids ss sr R) : ∃ s : Sl, u.cell? ⟨n6, 0, none⟩ = some (.slice s.a s.n s.c) ∧ s.n = l.length ∧ ∀ x : Int, 0 ≤ x → x < (s.n : Int) → ∃ p m e, s.a = some p ∧ l[x.toNat]? = some e ∧ PartAt v m e.2 ∧
    u.cell? (p.add (x.toNat * 3)) = some (.pointer (some ⟨m, 0, none⟩)) ∧ u.cell? ((p.add (x.toNat * 3)).add 1) = some (.int .u64 (hiW e.1)) ∧ u.cell? ((p.add (x.toNat * 3)).add 2) = some (.int .u64 (loW e.1)) := by
  obtain ⟨uT, uQ, t1, q1, t2, q2, hap, hT, hQ, hfr⟩ := h.ex
  obtain ⟨s, h1, h2, h3⟩ := hQ.slice
  refine ⟨s, q1.cell h1, h2, fun x x0 x1 => ?_⟩
  obtain ⟨p, m, e, g1, g2, g3, g4, g5, g6⟩ := h3 x x0 x1
  exact ⟨p, m, e, g1, g2, g3, q1.cell g4, q1.cell g5, q1.cell g6⟩

theorem WI.mono {v u u' : H} {N n6 : Nat} {k : Int} {S : List Hit} {l : List Op1} {ids : List Int} {ss sr : Sl} {R : List Rgn} (h : WI v u N n6 k S l ids ss sr R) (hu : u.le u') : WI v u' N n6 k S l ids ss sr R := by
  obtain ⟨uT, uQ, t1, q1, t2, q2, hap, hT, hQ, hfr⟩ := h.ex
  exact ⟨⟨uT, uQ, t1.trans hu, q1.trans hu, t2, q2, hap, hT, hQ, hfr⟩, h.seen.mono hu, h.rest.mono hu, h.far⟩

end Go.Proofs.YtncgdoeobblnkaaGreat

/- VcWalkS -/
namespace Go.Proofs.YtncgdoeobblnkaaGreat

/-- What a region of a part tells, with ids of rows. -/
def coreW (x : Pt × List Prw) : Int × Int × List Int × List Int × List Int := (x.1.sh, x.1.rad, x.1.lo, x.1.hi, sortI (x.2.map (·.1)))

theorem core_rgn {r : Rgn} {p : Pt} {rows : List Prw} (h : r.core = coreW (p, rows)) : r.sh = p.sh ∧ r.rad = p.rad ∧ r.lo = p.lo ∧ r.hi = p.hi ∧ r.ids = sortI (rows.map (·.1)) := by
  simp only [Rgn.core, coreW, Prod.mk.injEq] at h
  exact ⟨h.1, h.2.1, h.2.2.1, h.2.2.2.1, h.2.2.2.2⟩

theorem near_core {r : Rgn} {p : Pt} {rows : List Prw} (h : r.core = coreW (p, rows)) (q : List Int) : nearR r q = nearR (p.rgn []) q := by
  obtain ⟨h1, h2, h3, h4, _⟩ := core_rgn h
  unfold nearR Pt.rgn
  simp only [h1, h2, h3, h4]

theorem inside_core {r : Rgn} {p : Pt} {rows : List Prw} (h : r.core = coreW (p, rows)) {v : List Int} (hi : Inside (p.rgn []) v) : Inside r v := by
  obtain ⟨h1, h2, h3, h4, _⟩ := core_rgn h
  unfold Inside Pt.rgn at *
  simp only [h1, h2, h3, h4] at *
  exact hi

theorem reg_core {r : Rgn} {p : Pt} {rows : List Prw} {d : Int} (h : r.core = coreW (p, rows)) (hp : RegOk (p.rgn []) d) (hn : (rows.map (·.1)).Nodup) (hid : ∀ x ∈ rows, 1 ≤ x.1 ∧ x.1 ≤ 1000000000) : RegOk r d := by
  obtain ⟨h1, h2, h3, h4, h5⟩ := core_rgn h
  refine ⟨hp.dim, by rw [h5]; exact sortI_rise hn, fun x hx => ?_, ?_⟩
  · rw [h5] at hx
    obtain ⟨y, hy, rfl⟩ := List.mem_map.1 ((sortI_perm _).mem_iff.1 hx)
    exact hid y hy
  · have := hp.shape
    unfold Pt.rgn at this
    simp only at this
    rw [h1, h2, h3, h4]
    exact this

theorem pick_rows {L : List Rw} : ∀ {S : List Prw}, (∀ x ∈ S, x ∈ L.map Rw.pr) → ∃ m : List Rw, m.map Rw.pr = S ∧ ∀ r ∈ m, r ∈ L := by
  intro S
  induction S with
  | nil => intro _; exact ⟨[], rfl, fun r hr => by cases hr⟩
  | cons x S ih =>
    intro h
    obtain ⟨m, h1, h2⟩ := ih fun y hy => h y (List.mem_cons_of_mem _ hy)
    obtain ⟨r, hr, e⟩ := List.mem_map.1 (h x (List.mem_cons_self ..))
    exact ⟨r :: m, by rw [List.map_cons, h1, e], fun y hy => by
      rcases List.mem_cons.1 hy with rfl | hy
      · exact hr
      · exact h2 y hy⟩

theorem left_flat (s : WS) : (leftW s).flatMap (·.2) = s.rest.flatMap (·.2) ++ s.heap.flatMap fun x => x.2.all := by
  unfold leftW
  rw [List.flatMap_append]
  congr 1
  generalize s.heap = l
  induction l with
  | nil => rfl
  | cons x l ih =>
    rw [List.map_cons, List.filter_cons, List.flatMap_cons]
    cases e : x.2.all with
    | nil => simpa [e] using ih
    | cons y ys => simp only [List.isEmpty_cons, Bool.not_false, if_true, List.flatMap_cons, ih]

theorem left_mem {q : List Int} {b : Int} {P : List Prw} {s : WS} (h : WOk q b P s) : ∀ x ∈ leftW s, PtOk q.length x.1 ∧ x.2 ≠ [] ∧ (∀ y ∈ x.2, y ∈ x.1.all) := by
  intro x hx
  unfold leftW at hx
  rcases List.mem_append.1 hx with h1 | h1
  · exact h.left x h1
  · obtain ⟨h2, h3⟩ := List.mem_filter.1 h1
    obtain ⟨y, hy, rfl⟩ := List.mem_map.1 h2
    refine ⟨(h.near y hy).2, fun e => ?_, fun z hz => hz⟩
    simp only at e
    rw [e] at h3
    cases h3

theorem sub_sum {α β : Type} {f : α → List β} {x : α} : ∀ {l : List α}, x ∈ l → List.Sublist (f x) (l.flatMap f) := by
  intro l
  induction l with
  | nil => intro h; cases h
  | cons y l ih =>
    intro h
    rw [List.flatMap_cons]
    rcases List.mem_cons.1 h with rfl | h
    · exact List.sublist_append_left _ _
    · exact (ih h).trans (List.sublist_append_right _ _)

theorem walk_sound {q : List Int} {k b : Int} {ps : List Pt} {L : List Rw} {rs : List Rgn} (hb : 0 ≤ b) (hk : 1 ≤ k) (hps : ∀ p ∈ ps, PtOk q.length p) (hq : Qok L q) (hL : (L.map Rw.pr).Perm (Pt.allL ps)) (hr : rs.map Rgn.core = (leftW (walkE q k b ps)).map coreW) :
    Sound L q k (topW q k (walkE q k b ps)) (sortI ((walkE q k b ps).seen.map (·.1))) rs ∧ ((sortI ((walkE q k b ps).seen.map (·.1))).length : Int) ≤ b ∧
      (((sortI ((walkE q k b ps).seen.map (·.1))).length : Int) = b ∨ (sortI ((walkE q k b ps).seen.map (·.1))).length = L.length ∨ CertA q k (topW q k (walkE q k b ps)) rs) := by
  obtain ⟨hw, hend⟩ := walkE_ok (k := k) hb hps
  generalize walkE q k b ps = s at *
  have hpl := hw.perm
  rw [← left_flat] at hpl
  have hall := hpl.trans hL.symm
  have hidL : (L.map Rw.pr).map (·.1) = L.map (·.id) := by rw [List.map_map]; rfl
  have hids : (s.seen.map (·.1) ++ ((leftW s).flatMap (·.2)).map (·.1)).Perm (L.map (·.id)) := by
    rw [← hidL, ← List.map_append]
    exact hall.map _
  have hnd := hids.nodup_iff.2 hq.rows.nodup
  have hns := (List.nodup_append.1 hnd).1
  have hnl := (List.nodup_append.1 hnd).2.1
  have hcore : ∀ r ∈ rs, ∃ x ∈ leftW s, r.core = coreW x := fun r hrm => by
    have : r.core ∈ (leftW s).map coreW := by rw [← hr]; exact List.mem_map_of_mem hrm
    obtain ⟨x, hx, e⟩ := List.mem_map.1 this
    exact ⟨x, hx, e.symm⟩
  have hmemL : ∀ x ∈ leftW s, ∀ y ∈ x.2, y ∈ L.map Rw.pr := fun x hx y hy => hall.mem_iff.1 (List.mem_append_right _ (List.mem_flatMap.2 ⟨x, hx, hy⟩))
  have hregs : ∀ r ∈ rs, ∃ x ∈ leftW s, r.core = coreW x ∧ RegOk r q.length := fun r hrm => by
    obtain ⟨x, hx, e⟩ := hcore r hrm
    obtain ⟨h1, h2, h3⟩ := left_mem hw x hx
    refine ⟨x, hx, e, reg_core (p := x.1) (rows := x.2) e h1.reg ?_ fun y hy => ?_⟩
    · exact hnl.sublist ((sub_sum hx).map _)
    · obtain ⟨w, hw', ew⟩ := List.mem_map.1 (hmemL x hx y hy)
      rw [← ew]
      exact hq.rows.id w hw'
  have hflat : (rs.flatMap (·.ids)).Perm (((leftW s).flatMap (·.2)).map (·.1)) := by
    have e1 : rs.flatMap (·.ids) = (rs.map Rgn.core).flatMap fun z => z.2.2.2.2 := by rw [List.flatMap_map]; rfl
    rw [e1, hr, List.flatMap_map]
    generalize leftW s = l
    induction l with
    | nil => exact .refl _
    | cons x l ih =>
      rw [List.flatMap_cons, List.flatMap_cons, List.map_append]
      exact (sortI_perm _).append ih
  have hlen : (sortI (s.seen.map (·.1))).length = s.seen.length := by rw [sortI_len, List.length_map]
  obtain ⟨ms, hm1, hm2⟩ := pick_rows (L := L) (S := s.seen) fun x hx => hall.mem_iff.1 (List.mem_append_left _ hx)
  have htop : topW q k s = topk k.toNat (ms.map (hitOf q)) := by
    unfold topW
    rw [← hm1, List.map_map]
    rfl
  refine ⟨⟨sortI_rise hns, fun r hrm => ?_, ?_, fun m hm hms => ?_⟩, by rw [hlen]; exact hw.few, ?_⟩
  · obtain ⟨x, hx, e, hreg⟩ := hregs r hrm
    obtain ⟨h1, h2, h3⟩ := left_mem hw x hx
    obtain ⟨_, _, _, _, e5⟩ := core_rgn (p := x.1) (rows := x.2) e
    refine ⟨hreg, fun hn => ?_, fun y hy => ?_⟩
    · rw [e5] at hn
      have := congrArg List.length hn
      rw [sortI_len, List.length_map, List.length_nil] at this
      exact h2 (List.eq_nil_of_length_eq_zero this)
    · rw [e5] at hy
      obtain ⟨z, hz, rfl⟩ := List.mem_map.1 ((sortI_perm _).mem_iff.1 hy)
      obtain ⟨w, hw', ew⟩ := List.mem_map.1 (hmemL x hx z hz)
      refine ⟨w, hw', by rw [← ew]; rfl, inside_core (p := x.1) (rows := x.2) e ?_⟩
      have := h1.ins z (h3 z hz)
      rw [← ew] at this
      exact this
  · exact ((sortI_perm _).append hflat).trans hids
  · rw [htop]
    have hp : m.Perm ms := by
      refine rows_perm hq.rows.nodup hm hm2 ?_
      rw [hms]
      refine (sortI_perm _).trans (List.Perm.of_eq ?_)
      rw [← hm1, List.map_map]
      rfl
    exact topk_eq (hp.symm.map _)
  · rw [hlen]
    have hfew := hw.few
    by_cases hcut : s.rest = []
    · by_cases hb2 : b ≤ (s.seen.length : Int)
      · left; omega
      by_cases hh : s.heap = []
      · right; left
        have h1 := hids.length_eq
        rw [left_flat, hcut, hh] at h1
        simpa using h1
      · right; right
        have hfull : fullW q k s (s.heap.getD 0 default).1 := by
          by_cases hf : fullW q k s (s.heap.getD 0 default).1
          · exact hf
          · exact absurd ⟨hh, by omega, hf⟩ hend
        obtain ⟨f1, f2⟩ := hfull
        right
        refine ⟨?_, fun r hrm => ?_⟩
        · unfold topW
          rw [topk_len, List.length_map]
          omega
        · obtain ⟨x, hx, e, _⟩ := hregs r hrm
          rw [near_core (p := x.1) (rows := x.2) e]
          unfold leftW at hx
          rw [hcut, List.nil_append] at hx
          obtain ⟨y, hy, rfl⟩ := List.mem_map.1 (List.mem_filter.1 hx).1
          obtain ⟨i, hi, rfl⟩ := List.getElem_of_mem hy
          have hroot := hw.hp.root bltOk i hi
          rw [List.getD_eq_getElem?_getD, List.getElem?_eq_getElem hi] at hroot
          have hge : (s.heap.getD 0 default).1 ≤ s.heap[i].1 := by
            have : ¬ s.heap[i].1 < (s.heap.getD 0 default).1 := of_decide_eq_false hroot
            omega
          have := (hw.near _ hy).1
          rw [show (k - 1).toNat = k.toNat - 1 by omega]
          show _ < nearR (s.heap[i].2.rgn []) q
          omega
    · left
      exact hw.cut hcut

end Go.Proofs.YtncgdoeobblnkaaGreat

/- VcWlk4 -/
namespace Go.Proofs.YtncgdoeobblnkaaGreat

theorem bWalk1 : hasBody Tryz.prog 80 = true := by kernel_rfl
theorem bWalk2 : hasBody Tryz.prog 83 = true := by kernel_rfl

theorem len_size (P : List Pt) : P.length ≤ Pt.sizeL P := by
  induction P with
  | nil => exact Nat.le_refl _
  | cons p P ih => simp only [Pt.sizeL, List.length_cons]; have := Pt.size_eq p; omega

theorem ptr_at {u : H} {s : Sl} {ps : List Nat} (h : Seg u s 1 (ps.map fun n => .pointer (some ⟨n, 0, none⟩))) {i : Nat} (hi : i < ps.length) : ∃ a, s.a = some a ∧ u.cell? (a.add (i * 1)) = some (.pointer (some ⟨ps[i], 0, none⟩)) := by
  obtain ⟨a, ha, hc⟩ := Seg.elem (enc := fun n : Nat => [Value.pointer (some ⟨n, 0, none⟩)]) (k := 1) (fun _ => rfl) (by decide) (xs := ps) (by
    have e : ps.flatMap (fun n : Nat => [Value.pointer (some ⟨n, 0, none⟩)]) = ps.map fun n => Value.pointer (some ⟨n, 0, none⟩) := by
      generalize ps = z
      induction z with
      | nil => rfl
      | cons y z ih => rw [List.flatMap_cons, List.map_cons, ih]; rfl
    rw [e]
    exact h) (List.getElem?_eq_getElem hi)
  exact ⟨a, ha, hc 0 _ rfl⟩

theorem start_size (q : List Int) (P : List Pt) : Pt.sizeL ((startW q P).heap.map (·.2)) ≤ Pt.sizeL P := by
  have h0 : Hp blt ([] : List Op1).length [] := fun i _ hi => by simp at hi
  obtain ⟨h1, h2⟩ := foldl_add (q := q) P [] h0
  rw [List.nil_append] at h2
  show Pt.sizeL ((P.foldl (addW q) []).map (·.2)) ≤ _
  rw [sizeL_perm (h2.map _), List.map_map]
  exact Nat.le_of_eq (congrArg _ (List.map_id' _))

theorem loopW_stop {q : List Int} {k b : Int} {s : WS} (h : ¬ goW q k b s) : ∀ f, loopW q k b f s = s := by
  intro f
  cases f with
  | zero => rfl
  | succ f => unfold loopW; rw [if_neg h]

theorem loopW_go {q : List Int} {k b : Int} {s : WS} (h : goW q k b s) (f : Nat) : loopW q k b (f + 1) s = loopW q k b f (stepW q b s) := by
  conv => lhs; unfold loopW
  rw [if_pos h]

/-- Where the walk is: st, with f steps to go at most. -/
structure At (v w : H) (N n6 : Nat) (k b : Int) (q : List Int) (P : List Pt) (f : Nat) (sh ss sr : Sl) : Prop where
  hits : sh = ⟨none, 0, 0⟩
  ex : ∃ (st : WS) (S : List Hit) (R : List Rgn), WI v w N n6 k S st.heap (st.seen.map (·.1)) ss sr R ∧ S.Perm (st.seen.map (hitP q)) ∧ WOk q b (Pt.allL P) st ∧ R.map Rgn.core = st.rest.map coreW ∧ loopW q k b f st = walkE q k b P ∧ Pt.sizeL (st.heap.map (·.2)) ≤ f ∧ f ≤ Pt.sizeL P

/-- The walk's memory at its start. -/
theorem WI.start {v u : H} {N n6 : Nat} {k : Int} (hT : TopAt v N k u []) (hn : u n6 = none) : WI v (u.ins n6 (.cells #[.slice none 0 0] 131 (0, 0))) N n6 k [] [] [] ⟨none, 0, 0⟩ ⟨none, 0, 0⟩ [] := by
  have hv := hT.le
  have hvn : v n6 = none := le_none hv hn
  have hle := H.le_ins (u := u) (b := n6) (.cells #[.slice none 0 0] 131 (0, 0)) hn
  have hle2 := H.le_ins (u := v) (b := n6) (.cells #[.slice none 0 0] 131 (0, 0)) hvn
  refine ⟨⟨u, v.ins n6 (.cells #[.slice none 0 0] 131 (0, 0)), hle, fun c o hc => ?_, hv, hle2, fun c h1 h2 => ?_, hT, ⟨[], ⟨⟨⟨none, 0, 0⟩, H.ins_same _ _ _, OwnF.nil hle2 _ _, by simp [Sl.blk]⟩, hvn, by simp⟩, rfl, fun e he => (by cases he)⟩, fun s hs g hg => ?_⟩, OwnF.nil (hv.trans hle) _ _, RestAt.nil (hv.trans hle), fun s hs => ?_⟩
  · by_cases e : c = n6
    · subst e; rw [H.ins_same] at hc ⊢; exact hc
    · rw [H.ins_other _ _ e] at hc ⊢; exact hv c o hc
  · by_cases e : c = n6
    · subst e; exact absurd hn h1
    · rw [H.ins_other _ _ e] at h2; exact h2
  · simp at hs
    subst hs
    simp [Sl.blk] at hg
  · intro g hg
    simp [Sl.blk] at hg

theorem flat_ge {α : Type} {L : List (α × List Prw)} (h : ∀ x ∈ L, x.2 ≠ []) : L.length ≤ (L.flatMap (·.2)).length := by
  induction L with
  | nil => exact Nat.le_refl _
  | cons x L ih =>
    have h1 := ih fun y hy => h y (List.mem_cons_of_mem _ hy)
    have h2 : 0 < x.2.length := List.length_pos_iff.2 (h x (List.mem_cons_self ..))
    rw [List.flatMap_cons, List.length_append, List.length_cons]
    omega

theorem left_few {q : List Int} {b : Int} {Q : List Prw} {s : WS} (h : WOk q b Q s) : (leftW s).length ≤ Q.length := by
  have h1 := flat_ge fun x hx => (left_mem h x hx).2.1
  have h2 := h.perm.length_eq
  rw [← left_flat, List.length_append] at h2
  omega

/-- What is left of the first so many of a queue. -/
def leftN (s : WS) (x : Nat) : List (Pt × List Prw) := s.rest ++ ((s.heap.take x).map fun y => (y.2, y.2.all)).filter fun y => !y.2.isEmpty

theorem leftN_few {q : List Int} {b : Int} {Q : List Prw} {s : WS} (h : WOk q b Q s) (x : Nat) : (leftN s x).length ≤ Q.length := by
  refine Nat.le_trans (List.Sublist.length_le ?_) (left_few h)
  unfold leftN leftW
  exact (List.Sublist.refl _).append (((List.take_sublist x s.heap).map _).filter _)

theorem leftN_all (s : WS) {x : Nat} (h : s.heap.length ≤ x) : leftN s x = leftW s := by
  unfold leftN leftW
  rw [List.take_of_length_le h]

theorem leftN_succ {s : WS} {x : Nat} {e : Op1} (h : s.heap[x]? = some e) : leftN s (x + 1) = leftN s x ++ (if e.2.all = [] then [] else [(e.2, e.2.all)]) := by
  unfold leftN
  rw [List.take_add_one, h, Option.toList, List.map_append, List.filter_append, List.append_assoc]
  congr 2
  cases e2 : e.2.all <;> simp [e2]

theorem heap_all_le {q : List Int} {b : Int} {Q : List Prw} {s : WS} (h : WOk q b Q s) {e : Op1} (he : e ∈ s.heap) : e.2.all.length ≤ Q.length := by
  have h1 := (sub_sum (f := fun x : Op1 => x.2.all) he).length_le
  have h2 := h.perm.length_eq
  rw [List.length_append, List.length_append] at h2
  omega

theorem heap_size_le {l : List Op1} {e : Op1} (he : e ∈ l) : e.2.size ≤ Pt.sizeL (l.map (·.2)) := by
  induction l with
  | nil => cases he
  | cons x l ih =>
    simp only [List.map_cons, Pt.sizeL]
    rcases List.mem_cons.1 he with rfl | he
    · omega
    · have := ih he; omega

theorem regok_small {p : Pt} {d : Int} (h : RegOk (p.rgn []) d) : p.lo.length ≤ 64 ∧ p.hi.length ≤ 64 := by
  have hd := h.dim
  rcases h.shape with ⟨_, h1, h2, _⟩ | ⟨_, _, h1, h2, _⟩ | ⟨_, h1, h2, _⟩
  · have h1' : p.lo = [] := h1
    have h2' : p.hi = [] := h2
    rw [h1', h2']; simp
  · exact ⟨h1.1, h2.1⟩
  · have h1' : p.hi = [] := h1
    rw [h1']
    exact ⟨h2.1, by simp⟩

/-- The answer of a walk's memory. -/
theorem wi_ans {u v z u1 u2 : H} {N n6 : Nat} {k : Int} {S : List Hit} {l : List Op1} {ids ids' : List Int} {sh ss sr : Sl} {R : List Rgn} {H1 : List Hit} (luv : u.le v) (hW : WI v z N n6 k S l ids ss sr R)
    (h1 : OwnF v u1 3 1 ss (ids'.flatMap encI)) (he : Else z u1 ss) (h2 : OwnF u1 u2 66 3 sh (H1.flatMap encH)) : AnsO u u2 sh ss sr H1 ids' R := by
  have hR1 : RestAt v u1 sr R := hW.rest.stay h1.le fun s hs g o hg ho => he g o ho fun e => hW.far s hs g e hg
  have hR2 := hR1.mono h2.le
  have hss := h1.mono h2.le
  refine ⟨h2.weaken (luv.trans h1.le), hss.weaken luv, hR2.own.weaken luv, fun r hr => ⟨(hR2.each r hr).l.weaken luv, (hR2.each r hr).h.weaken luv, (hR2.each r hr).i.weaken luv⟩, ?_⟩
  have kn : ∀ s ∈ ss :: sr :: R.flatMap Rgn.sls, ∀ g, s.blk = some g → u1 g ≠ none := by
    intro s hs g hg
    rcases List.mem_cons.1 hs with rfl | hs
    · exact own_known h1 hg
    · rcases List.mem_cons.1 hs with rfl | hs
      · exact own_known hR1.own hg
      · obtain ⟨y, hy, hty⟩ := List.mem_flatMap.1 hs
        obtain ⟨xs, hx⟩ := own3_sls (hR1.each y hy) s hty
        exact own_known hx hg
  unfold ansS
  refine List.pairwise_cons.2 ⟨fun s hs g hg hg2 => kn s hs g hg2 (h2.fresh g hg), List.pairwise_cons.2 ⟨fun s hs => hW.far s hs, hR2.far⟩⟩

/-- A step of the loop. -/
theorem at_step {q : List Int} {k b : Int} {P : List Pt} {st : WS} {f : Nat} (hgo : goW q k b st) (hok : WOk q b (Pt.allL P) st) (hl : loopW q k b f st = walkE q k b P) (hs : Pt.sizeL (st.heap.map (·.2)) ≤ f) :
    ∃ f', f = f' + 1 ∧ loopW q k b f' (stepW q b st) = walkE q k b P ∧ Pt.sizeL ((stepW q b st).heap.map (·.2)) ≤ f' ∧ WOk q b (Pt.allL P) (stepW q b st) := by
  have h1 := step_size hok hgo
  cases f with
  | zero => omega
  | succ f => exact ⟨f, rfl, by rw [← loopW_go hgo]; exact hl, by omega, stepW_ok hok hgo⟩

end Go.Proofs.YtncgdoeobblnkaaGreat

/- VcWlk5 -/
namespace Go.Proofs.YtncgdoeobblnkaaGreat

theorem spec.flat_Walk {u : H} {s0 t : Sl} {ms : List Nat} {P : List Pt} {q : List Int} {k b : Int} {K : Sl → Sl → Sl → H → Prop} (hs : Seg u s0 1 (ms.map fun n => .pointer (some ⟨n, 0, none⟩))) (hlen : ms.length = P.length)
    (hp : ∀ (i : Nat) m p, ms[i]? = some m → P[i]? = some p → PartAt u m p) (hok : ∀ p ∈ P, PtOk q.length p) (ht : Ints u t q) (hq : vok q) (k1 : 1 ≤ k) (k2 : k ≤ 64) (b0 : 0 ≤ b) (b1 : b ≤ 1000000) (hsz : Pt.sizeL P ≤ 4000000) (hal : (Pt.allL P).length ≤ 100000)
    (hrows : ∀ x ∈ Pt.allL P, (x.2.length : Int) = q.length ∧ vok x.2)
    (hK : ∀ sh ss sr R u', AnsO u u' sh ss sr (topW q k (walkE q k b P)) (sortI ((walkE q k b P).seen.map (·.1))) R → R.map Rgn.core = (leftW (walkE q k b P)).map coreW → K sh ss sr u') : C.flat_Walk s0 t k b u K := by
  apply vc.flat_Walk
  intro n0 hn0
  refine spec.topk_New (fun hx => absurd hx (by omega)) fun _ _ N u3 l3 hN hT0 => ?_
  intro n4 hn4
  refine ⟨_, _, H.ins_same _ _ _, rfl, by simp, by simp [Value.oneCell'], ?_⟩
  intro n6 hn6
  rw [H.ins_ins] at hn6 ⊢
  obtain ⟨oB, hoB⟩ : ∃ oB, oB = (Obj.cells (wr #[Value.pointer none] 0 [Value.pointer (some ⟨N, 0, none⟩)]) 107 (0, 0)) := ⟨_, rfl⟩
  rw [← hoB] at hn6 ⊢
  obtain ⟨o0, ho0⟩ : ∃ o0, o0 = (Obj.cells #[Value.slice t.a t.n t.c] 41 (0, 0)) := ⟨_, rfl⟩
  rw [← ho0] at hT0 l3 hN
  have hT := hT0.rebase hn4 oB
  have hv1n4 : (u.ins n0 o0) n4 = none := le_none l3 hn4
  obtain ⟨v, hv⟩ : ∃ v, v = (u.ins n0 o0).ins n4 oB := ⟨_, rfl⟩
  rw [← hv] at hT
  have luv : u.le v := by rw [hv]; exact (H.le_ins _ hn0).trans (H.le_ins _ hv1n4)
  have c0v : v.cell? ⟨n0, 0, none⟩ = some (.slice t.a t.n t.c) := by
    have h1 : (u.ins n0 o0) n0 = some o0 := H.ins_same _ _ _
    have h2 : v n0 = some o0 := by rw [hv]; exact H.le_ins _ hv1n4 _ _ h1
    rw [ho0] at h2
    exact H.cell?_of h2 0
  have c4v : v.cell? ⟨n4, 0, none⟩ = some (.pointer (some ⟨N, 0, none⟩)) := by
    have h2 : v n4 = some oB := by rw [hv]; exact H.ins_same _ _ _
    rw [hoB] at h2
    exact H.cell?_of h2 0
  have W0 := WI.start hT hn6
  have htv := ht.mono luv
  have hpv : ∀ (i : Nat) m p, ms[i]? = some m → P[i]? = some p → PartAt v m p := fun i m p h1 h2 => (hp i m p h1 h2).mono luv
  have hsn : s0.n = ms.length := by have := hs.len; simpa using this.symm
  have hsm := Nat.le_trans (Seg.cap hs) (Seg.max hs)
  refine ⟨fun x w => 0 ≤ x ∧ x ≤ s0.n ∧ WI v w N n6 k [] ((P.take x.toNat).foldl (addW q) []) [] ⟨none, 0, 0⟩ ⟨none, 0, 0⟩ [], fun x _ => ((s0.n : Int) - x).toNat, ⟨by omega, by omega, W0⟩, fun x w hI => ⟨fun hx => ?_, fun hx => ?_⟩⟩
  · obtain ⟨x0, x1, W⟩ := hI
    have hxl : x.toNat < ms.length := by omega
    obtain ⟨a, ha, hc⟩ := ptr_at (hs.mono (luv.trans W.le)) hxl
    have hP : P[x.toNat]? = some P[x.toNat] := List.getElem?_eq_getElem (by omega)
    have hpk := hok _ (List.getElem_mem (show x.toNat < P.length by omega))
    have hlen2 : ((P.take x.toNat).foldl (addW q) []).length < 10000000 := by
      have h0' : Hp blt ([] : List Op1).length [] := fun i _ hi => by simp at hi
      have h1 := (foldl_add (q := q) (P.take x.toNat) [] h0').2.length_eq
      rw [List.nil_append, List.length_map, List.length_take] at h1
      have h2 := len_size P
      omega
    refine ⟨a, ha, ⟨x0, hx⟩, _, hc, .inl ⟨_, _, _, rfl, bodyOf bWalk1, spec.wi_add W hlen2 (hpv _ _ _ (List.getElem?_eq_getElem hxl) hP) hpk.reg hq c0v htv fun u' hW => ⟨⟨by omega, by omega⟩, ⟨by omega, by omega, ?_⟩, by dsimp only; omega⟩⟩⟩
    rw [show (x + 1).toNat = x.toNat + 1 by omega, List.take_add_one, hP, List.foldl_append]
    exact hW
  · obtain ⟨x0, x1, W⟩ := hI
    rw [List.take_of_length_le (by omega)] at W
    intro K14 h14
    refine ⟨fun s57 s58 s59 w => ∃ f, At v w N n6 k b q P f s57 s58 s59, fun s57 s58 s59 w => least fun f => At v w N n6 k b q P f s57 s58 s59, ⟨Pt.sizeL P, rfl, startW q P, [], [], W, .refl _, startW_ok b0 hok, rfl, rfl, start_size q P, Nat.le_refl _⟩, fun s57 s58 s59 w hI => ?_⟩
    have hf := least_is hI
    generalize hfe : (least fun f => At v w N n6 k b q P f s57 s58 s59) = f at hf
    obtain ⟨h57, st, S, R, hW, hS, hwok, hR, hloop, hsize, hfl⟩ := hf
    obtain rfl : s57 = ⟨none, 0, 0⟩ := h57
    intro K61 h61
    obtain ⟨sq, e1, e2, e3⟩ := hW.slice
    have hseen : s58.n = st.seen.length := by have h := hW.seen.ints.len; rw [List.length_map] at h; exact h
    have hheapl : st.heap.length ≤ 4000000 := by have h := len_size (st.heap.map (·.2)); rw [List.length_map] at h; omega
    have hmemP : ∀ x ∈ st.seen, x ∈ Pt.allL P := fun x hx => hwok.perm.mem_iff.1 (List.mem_append_left _ hx)
    have hdok : ∀ g ∈ S, Dok g.2 := fun g hg => by
      obtain ⟨x, hx, rfl⟩ := List.mem_map.1 (hS.mem_iff.1 hg)
      obtain ⟨g1, g2⟩ := hrows x (hmemP x hx)
      exact sqTo_ok g2 hq (by omega)
    have htop : topW q k st = topk k.toNat S := topk_eq hS.symm
    have hRl : R.length = st.rest.length := by have := congrArg List.length hR; simpa using this
    have fin : ¬ goW q k b st → K14 ⟨none, 0, 0⟩ s58 s59 w := fun hng => by
      have hst : walkE q k b P = st := by rw [← hloop, loopW_stop hng]
      obtain ⟨uT, uQ, t1, q1, t2, q2, hap, hTT, hQ, hfr⟩ := hW.ex
      obtain ⟨sq, e1, e2, e3⟩ := hQ.slice
      refine h14 ⟨none, 0, 0⟩ s58 s59 w ⟨sq, q1.cell e1, fun x s23 s24 s25 z => 0 ≤ x ∧ x ≤ sq.n ∧ s23 = ⟨none, 0, 0⟩ ∧ s24 = s58 ∧ uT.le z ∧ uQ.le z ∧ (∀ g, s25.blk = some g → uT g = none ∧ uQ g = none) ∧ ∃ R', WI v z N n6 k S st.heap (st.seen.map (·.1)) s58 s25 R' ∧ R'.map Rgn.core = (leftN st x.toNat).map coreW, fun x _ _ _ _ => ((sq.n : Int) - x).toNat,
        ⟨by omega, by omega, rfl, rfl, t1, q1, fun g hg => hfr s59 (by simp) g hg, R, hW, by rw [hR]; simp [leftN]⟩, ?_⟩
      rintro x s23 s24 s25 z ⟨x0, x1, h23, h24, tz, qz, hz, R', hW', hR'⟩
      obtain rfl : s23 = ⟨none, 0, 0⟩ := h23
      obtain rfl : s24 = s58 := h24
      have hRl' : R'.length = (leftN st x.toNat).length := by have := congrArg List.length hR'; simpa using this
      have hfew := leftN_few hwok x.toNat
      refine ⟨fun hx => ?_, fun hx => ?_⟩
      · obtain ⟨p, m, e, g1, g2, g3, g4, g5, g6⟩ := e3 x x0 hx
        have hem : e ∈ st.heap := List.mem_of_getElem? g2
        have hbnd := heap_all_le hwok hem
        obtain ⟨en1, en2⟩ := hwok.near e hem
        have hsucc := leftN_succ g2
        refine ⟨p, g1, ⟨x0, hx⟩, _, qz.cell g4, _, qz.cell g5, _, qz.cell g6, spec.flat_Part__All g3 hW'.le (by omega) fun s31 L u32 o31 hL hI => ⟨fun hpos => ?_, fun hno => ?_⟩⟩
        · have hn31 := flat_n encR_len (by decide) o31.own.seg
          have hLl : L.length = e.2.all.length := by rw [← hL, List.length_map]
          have hne : e.2.all ≠ [] := fun h0 => by rw [h0] at hLl; simp at hLl; rw [hLl] at hn31; simp at hn31; omega
          rw [if_neg hne] at hsucc
          cases g3 with
          | mk ls hs' is rs ks rows ps cell isn lo hi at' pr kids len each =>
          have vu : v.le u32 := hW'.le.trans o31.le
          have hc := vu _ _ cell
          obtain ⟨lo64, hi64⟩ := regok_small en2.reg
          have hrw : Rws u32 s31 L := ⟨o31.own.seg, fun r hr => (hI r hr).mono vu⟩
          have hids : sortI (L.map (·.id)) = sortI (e.2.all.map (·.1)) := by rw [← hL, List.map_map]; rfl
          refine ⟨_, rfl, _, H.cell?_of hc 0, ls, H.cell?_of hc 1, hs', H.cell?_of hc 2, _, H.cell?_of hc 3, _, H.cell?_of hc 4, is, H.cell?_of hc 5,
            spec.flat_region (lo.mono vu) (hi.mono vu) hrw lo64 hi64 (by omega) fun a b' c u46 oa ob oc f1 f2 f3 => ⟨oa.le, ?_⟩⟩
          have hW2 := hW'.mono o31.le
          have := wi_left (r := ⟨e.2.sh, a, b', e.2.rad, c, e.2.lo, e.2.hi, sortI (L.map (·.id))⟩) hW2 oa.le ⟨oa, ob, oc⟩ f1 f2 f3 (by omega)
            (K := fun (s49 : Sl) (u50 : H) => InR (x + 1) ∧ (0 ≤ x + 1 ∧ x + 1 ≤ (sq.n : Int) ∧ (⟨none, 0, 0⟩ : Sl) = ⟨none, 0, 0⟩ ∧ s24 = s24 ∧ uT.le u50 ∧ uQ.le u50 ∧ (∀ g, s49.blk = some g → uT g = none ∧ uQ g = none) ∧ ∃ R', WI v u50 N n6 k S st.heap (st.seen.map (·.1)) s24 s49 R' ∧ R'.map Rgn.core = (leftN st (x + 1).toNat).map coreW) ∧ ((sq.n : Int) - (x + 1)).toNat < ((sq.n : Int) - x).toNat)
            fun s49 u50 hW3 hel hbl => ⟨⟨by omega, by omega⟩, ⟨by omega, by omega, rfl, rfl, fun g o hg => hel g o (oa.le _ _ (o31.le _ _ (tz g o hg))) fun e0 => (by rw [(hz g e0).1] at hg; cases hg), fun g o hg => hel g o (oa.le _ _ (o31.le _ _ (qz g o hg))) fun e0 => (by rw [(hz g e0).2] at hg; cases hg), fun g hg => ?_, _, hW3, ?_⟩, by omega⟩
          · exact SemT.slice_mono this fun s1 v1 h => ⟨oa.le.trans h.1, h.2⟩
          · rcases hbl g hg with h1 | h1
            · exact hz g h1
            · have h2 := le_none (o31.le.trans oa.le) h1
              exact ⟨le_none tz h2, le_none qz h2⟩
          · rw [show (x + 1).toNat = x.toNat + 1 by omega, hsucc, List.map_append, List.map_append, hR']
            simp only [List.map_cons, List.map_nil, Rgn.core, coreW, hids]
        · have hn31 := flat_n encR_len (by decide) o31.own.seg
          have hLl : L.length = e.2.all.length := by rw [← hL, List.length_map]
          have hnil : e.2.all = [] := List.eq_nil_of_length_eq_zero (by omega)
          rw [if_pos hnil, List.append_nil] at hsucc
          exact ⟨⟨by omega, by omega⟩, ⟨by omega, by omega, rfl, rfl, tz.trans o31.le, qz.trans o31.le, hz, R', hW'.mono o31.le, by rw [show (x + 1).toNat = x.toNat + 1 by omega, hsucc]; exact hR'⟩, by dsimp only; omega⟩
      · have hsl := hwok.few
        rw [leftN_all st (by omega)] at hR'
        refine spec.slices_Sort___int_int_ hW'.seen (by rw [List.length_map]; omega) fun u51 ho51 he51 => ⟨_, ho51.le.cell c4v, ?_⟩
        have tT : uT.le u51 := fun g o hg => he51 g o (tz g o hg) fun e0 => by rw [(hfr s24 (by simp) g e0).1] at hg; cases hg
        refine spec.topk_Heap__List (hTT.whole tT) fun s53 u54 o53 => ?_
        have hans := wi_ans luv hW' ho51 he51 o53
        rw [← htop, ← hst] at hans
        rw [← hst] at hR'
        exact hK _ _ _ _ _ hans hR'
    have hSl : S.length = st.seen.length := by have := hS.length_eq; rwa [List.length_map] at this
    refine ⟨sq, e1, vc.flat_queue__Len _ _ _ ⟨fun hlen => ⟨fun hb => ?_, fun hb => fin fun hg => by have := hg.2.1; omega⟩, fun hlen => fin fun hg => ?_⟩⟩
    · obtain ⟨p, m, e, g1, g2, g3, g4, g5, g6⟩ := e3 0 (by omega) (by omega)
      have ehead : st.heap.getD 0 default = e := by rw [List.getD_eq_getElem?_getD]; rw [show (0 : Int).toNat = 0 from rfl] at g2; rw [g2]; rfl
      have hem : e ∈ st.heap := List.mem_of_getElem? g2
      obtain ⟨en1, en2⟩ := hwok.near e hem
      have hde : Dok e.1 := by rw [en1]; exact nearR_ok en2.reg hq
      refine ⟨sq, e1, p, g1, ⟨by omega, by omega⟩, _, g5, _, by rw [Addr.add_add']; exact g6, .inl ⟨_, _, _, rfl, bodyOf bWalk2, spec.wi_done hW k1 hdok c4v (hiU hde) (loU _) fun bb hbb => ?_⟩⟩
      rw [wv_hl, hSl] at hbb
      have hfull : bb = true ↔ fullW q k st (st.heap.getD 0 default).1 := by
        rw [hbb, ehead]
        unfold fullW
        rw [htop]
      refine ⟨fun hnd => h61 _ ?_, fun hd => fin fun hg => hg.2.2 (hfull.1 hd)⟩
      have hgo : goW q k b st := ⟨fun e0 => (by rw [e0] at hem; cases hem), by omega, fun hf => hnd (hfull.2 hf)⟩
      clear fin h14 hfull
      obtain ⟨f', hff, hloop', hsize', hwok'⟩ := at_step hgo hwok hloop hsize
      have hhl : 0 < st.heap.length := List.length_pos_iff.2 hgo.1
      have hrest0 : st.rest = [] := by
        by_cases e0 : st.rest = []
        · exact e0
        · have := hwok.cut e0; omega
      have hmeas : ∀ {sa sb sc : Sl} {z : H}, At v z N n6 k b q P f' sa sb sc → least (fun f => At v z N n6 k b q P f sa sb sc) < least fun f => At v w N n6 k b q P f ⟨none, 0, 0⟩ s58 s59 := fun {sa sb sc z} h => by
        rw [hfe]
        exact Nat.lt_of_le_of_lt (least_le h) (by omega)
      refine spec.wi_pop hW hwok.hp hhl fun u64 m1 hW1 hpart => sem_assertQ ?_
      rw [ehead] at hpart ⊢
      have hall := heap_all_le hwok hem
      rw [Pt.all_eq, List.length_append] at hall
      obtain ⟨p1, p2, p3, _⟩ := popF_ok bltOk hwok.hp hhl
      have hsz2 := heap_size_le hem
      have hsz3 := len_size (st.heap.map (·.2))
      rw [List.length_map] at hsz3
      rw [Pt.size_eq] at hsz2
      have hkl := len_size e.2.kids
      have hpl := p1.length_eq
      rw [List.length_cons] at hpl
      cases hpart with
      | mk ls hs' is rs ks rows ps cell isn lo hi at' pr kids len each =>
      have hkn : ks.n = ps.length := by have := kids.len; simpa using this.symm
      have hrl : e.2.rows.length = rows.length := by rw [← pr, List.length_map]
      have hrn := at'.len
      refine ⟨_, rfl, ks, H.cell?_of (hW1.le _ _ cell) 7, fun x z => 0 ≤ x ∧ x ≤ ks.n ∧ WI v z N n6 k S ((e.2.kids.take x.toNat).foldl (addW q) (popF blt st.heap)) (st.seen.map (·.1)) s58 s59 R, fun x _ => ((ks.n : Int) - x).toNat, ⟨by omega, by omega, by simpa using hW1⟩, ?_⟩
      rintro x z ⟨x0, x1, hWx⟩
      refine ⟨fun hx => ?_, fun hx => ?_⟩
      · have hxl : x.toNat < ps.length := by omega
        obtain ⟨a, ha, hc⟩ := ptr_at (kids.mono hWx.le) hxl
        have hP : e.2.kids[x.toNat]? = some e.2.kids[x.toNat] := List.getElem?_eq_getElem (by omega)
        have hpk := en2.kids _ (List.getElem_mem (show x.toNat < e.2.kids.length by omega))
        have hlen2 : ((e.2.kids.take x.toNat).foldl (addW q) (popF blt st.heap)).length < 10000000 := by
          have h1 := (foldl_add (q := q) (e.2.kids.take x.toNat) _ p2).2.length_eq
          rw [List.length_append, List.length_map, List.length_take] at h1
          omega
        refine ⟨a, ha, ⟨x0, hx⟩, _, hc, .inl ⟨_, _, _, rfl, bodyOf bWalk1, spec.wi_add hWx hlen2 (each _ _ _ (List.getElem?_eq_getElem hxl) hP) hpk.reg hq c0v htv fun u' hW => ⟨⟨by omega, by omega⟩, ⟨by omega, by omega, ?_⟩, by dsimp only; omega⟩⟩⟩
        rw [show (x + 1).toNat = x.toNat + 1 by omega, List.take_add_one, hP, List.foldl_append]
        exact hW
      · rw [List.take_of_length_le (by omega)] at hWx
        have hsteph : (stepW q b st).heap = e.2.kids.foldl (addW q) (popF blt st.heap) := by unfold stepW; rw [ehead]
        have hsteps : (stepW q b st).seen = st.seen ++ e.2.rows.take (b - st.seen.length).toNat := by unfold stepW; rw [ehead]
        have hstepr : (stepW q b st).rest = if (e.2.rows.length : Int) ≤ b - st.seen.length then st.rest else st.rest ++ [(e.2, e.2.rows.drop (b - st.seen.length).toNat)] := by unfold stepW; rw [ehead]
        rw [← hsteph] at hWx
        refine ⟨_, rfl, rs, H.cell?_of (hWx.le _ _ cell) 6, fun x s83 s84 s85 z => 0 ≤ x ∧ x ≤ rs.n ∧ s83 = ⟨none, 0, 0⟩ ∧ s85 = s59 ∧ st.seen.length + x ≤ b ∧ ∃ S', WI v z N n6 k S' (stepW q b st).heap ((st.seen ++ e.2.rows.take x.toNat).map (·.1)) s84 s59 R ∧ S'.Perm ((st.seen ++ e.2.rows.take x.toNat).map (hitP q)),
          fun x _ _ _ _ => ((rs.n : Int) - x).toNat, ⟨by omega, by omega, rfl, rfl, by have := hwok.few; omega, S, by simpa using hWx, by simpa using hS⟩, ?_⟩
        clear x0 x1 hx hWx x z
        rintro x s83 s84 s85 z ⟨x0, x1, h83, h85, xb, S', hWz, hS'⟩
        obtain rfl : s83 = ⟨none, 0, 0⟩ := h83
        obtain rfl : s85 = s59 := h85
        have hn84 : s84.n = st.seen.length + min x.toNat e.2.rows.length := by have h := hWz.seen.ints.len; rw [List.length_map, List.length_append, List.length_take] at h; exact h
        refine ⟨fun hx => ?_, fun hx => ?_⟩
        · obtain ⟨pp, hpp, r, hr, c0, c1, c2⟩ := (at'.mono hWz.le).at x0 hx
          have hrr : e.2.rows[x.toNat]? = some r.pr := by rw [← pr, List.getElem?_map, hr]; rfl
          have hrP : r.pr ∈ Pt.allL P := hwok.perm.mem_iff.1 (List.mem_append_right _ (List.mem_append_right _ (List.mem_flatMap.2 ⟨e, hem, by rw [Pt.all_eq]; exact List.mem_append_left _ (List.mem_of_getElem? hrr)⟩)))
          obtain ⟨rv1, rv2⟩ := hrows _ hrP
          have rv1' : (r.v.length : Int) = q.length := rv1
          have rv2' : vok r.v := rv2
          refine ⟨pp, hpp, ⟨x0, hx⟩, _, c0, _, c1, fun hb84 => ?_, fun hb84 => ?_⟩
          · have hc := hWz.le _ _ cell
            obtain ⟨lo64, hi64⟩ := regok_small en2.reg
            have hbx : (b - st.seen.length).toNat = x.toNat := by omega
            have hcut : ¬ (e.2.rows.length : Int) ≤ b - st.seen.length := by omega
            rw [if_neg hcut, hbx] at hstepr
            rw [hbx] at hsteps
            have hpt := (at'.mono hWz.le).part (l := x.toNat) (h := rs.n) (m := rs.c) (by omega) (Nat.le_refl _) at'.1.cap (Nat.le_refl _)
            have htk : (rows.drop x.toNat).take (rs.n - x.toNat) = rows.drop x.toNat := List.take_of_length_le (by rw [List.length_drop]; omega)
            rw [htk] at hpt
            have hids : sortI ((rows.drop x.toNat).map (·.id)) = sortI ((e.2.rows.drop x.toNat).map (·.1)) := by rw [← pr, ← List.map_drop, List.map_map]; rfl
            refine ⟨_, rfl, _, rfl, _, H.cell?_of hc 0, ls, H.cell?_of hc 1, hs', H.cell?_of hc 2, _, H.cell?_of hc 3, _, H.cell?_of hc 4, is, H.cell?_of hc 5, rs, H.cell?_of hc 6,
              sem_slice tRows (l := x.toNat) (h := rs.n) (m := rs.c) (.inr (by rw [Int.toNat_of_nonneg x0])) (.inl ⟨rfl, rfl⟩) (.inl ⟨rfl, rfl⟩) (by omega) at'.1.cap (Nat.le_refl _) at'.1.cap ⟨H.le.refl _,
              spec.flat_region (lo.mono hWz.le) (hi.mono hWz.le) hpt lo64 hi64 (by rw [List.length_drop]; omega) fun a b' c u46 oa ob oc f1 f2 f3 => ⟨oa.le, ?_⟩⟩⟩
            have := wi_left (r := ⟨e.2.sh, a, b', e.2.rad, c, e.2.lo, e.2.hi, sortI ((rows.drop x.toNat).map (·.id))⟩) hWz oa.le ⟨oa, ob, oc⟩ f1 f2 f3 (by rw [hRl, hrest0]; simp)
              (K := fun (s110 : Sl) (u111 : H) => (∃ f, At v u111 N n6 k b q P f ⟨none, 0, 0⟩ s84 s110) ∧ (least fun f => At v u111 N n6 k b q P f ⟨none, 0, 0⟩ s84 s110) < least fun f => At v w N n6 k b q P f ⟨none, 0, 0⟩ s58 s85)
              fun s110 u111 hW3 _ _ => ?_
            · exact SemT.slice_mono this fun s1 v1 h => ⟨oa.le.trans h.1, h.2⟩
            · have hAt : At v u111 N n6 k b q P f' ⟨none, 0, 0⟩ s84 s110 := ⟨rfl, stepW q b st, S', _, by rw [hsteps]; exact hW3, by rw [hsteps]; exact hS', hwok', by rw [hstepr, List.map_append, List.map_append, hR]; simp only [List.map_cons, List.map_nil, Rgn.core, coreW, hids], hloop', hsize', by omega⟩
              exact ⟨⟨f', hAt⟩, hmeas hAt⟩
          · refine ⟨t, hWz.le.cell c0v, spec.vec_Dist c2 (htv.mono hWz.le) rv2' (by have := en2.reg.dim; omega) hq (by omega) fun x113 x114 hx3 hx4 hw => ⟨_, hWz.le.cell c4v, ?_⟩⟩
            have e3' : x113 = hiW (hitP q r.pr).2 := by show x113 = hiW (sqTo r.v q r.v.length); rw [← hw, hi_wv hx4]
            have e4' : x114 = loW (hitP q r.pr).2 := by show x114 = loW (sqTo r.v q r.v.length); rw [← hw, lo_wv hx4]
            rw [e3', e4']
            refine spec.wi_Offer (x := hitP q r.pr) hWz k1 k2 fun bb u119 hWo => wi_see hWo (by rw [List.length_map, List.length_append, List.length_take]; omega) fun s' u123 hWs => ⟨⟨by omega, by omega⟩, ⟨by omega, by omega, rfl, rfl, by omega, hitP q r.pr :: S', ?_, ?_⟩, by dsimp only; omega⟩
            · have et : e.2.rows.take (x + 1).toNat = e.2.rows.take x.toNat ++ [r.pr] := by
                rw [show (x + 1).toNat = x.toNat + 1 by omega, List.take_add_one, hrr]; rfl
              rw [et, ← List.append_assoc, List.map_append]
              exact hWs
            · have et : e.2.rows.take (x + 1).toNat = e.2.rows.take x.toNat ++ [r.pr] := by
                rw [show (x + 1).toNat = x.toNat + 1 by omega, List.take_add_one, hrr]; rfl
              rw [et, ← List.append_assoc, List.map_append]
              exact (List.Perm.cons _ hS').trans (List.perm_append_singleton _ _).symm
        · have hfit : (e.2.rows.length : Int) ≤ b - st.seen.length := by omega
          rw [if_pos hfit] at hstepr
          rw [List.take_of_length_le (by omega)] at hWz hS'
          rw [List.take_of_length_le (by omega)] at hsteps
          have hAt : At v z N n6 k b q P f' ⟨none, 0, 0⟩ s84 s85 := ⟨rfl, stepW q b st, S', R, by rw [hsteps]; exact hWz, by rw [hsteps]; exact hS', hwok', by rw [hstepr]; exact hR, hloop', hsize', by omega⟩
          exact ⟨⟨f', hAt⟩, hmeas hAt⟩
    · have hne := hg.1
      have := List.length_pos_iff.2 hne
      omega

end Go.Proofs.YtncgdoeobblnkaaGreat

/- VcVp3 -/
namespace Go.Proofs.YtncgdoeobblnkaaGreat.Vp

theorem nodup_len {α : Type} : ∀ {a b : List α}, a.Nodup → (∀ x ∈ a, x ∈ b) → a.length ≤ b.length ∧ (b.length ≤ a.length → a.Perm b)
  | [], b, _, _ => ⟨Nat.zero_le _, fun h => by
    have : b = [] := List.eq_nil_of_length_eq_zero (by simpa using h)
    rw [this]⟩
  | x :: a, b, hn, hs => by
    obtain ⟨s, t, rfl⟩ := List.append_of_mem (hs x (List.mem_cons_self ..))
    rw [List.nodup_cons] at hn
    have hs' : ∀ y ∈ a, y ∈ s ++ t := fun y hy => by
      have := hs y (List.mem_cons_of_mem _ hy)
      rw [List.mem_append, List.mem_cons] at this
      rw [List.mem_append]
      rcases this with h | rfl | h
      · exact .inl h
      · exact absurd hy hn.1
      · exact .inr h
    obtain ⟨h1, h2⟩ := nodup_len hn.2 hs'
    rw [List.length_append] at h1 h2
    refine ⟨by simp; omega, fun hl => ?_⟩
    have := h2 (by simp at hl; omega)
    exact (List.Perm.cons x this).trans List.perm_middle.symm

theorem nodup_of_map {α β : Type} {f : α → β} : ∀ {l : List α}, (l.map f).Nodup → l.Nodup
  | [], _ => .nil
  | x :: l, h => by
    rw [List.map_cons, List.nodup_cons] at h
    rw [List.nodup_cons]
    exact ⟨fun hx => h.1 (List.mem_map_of_mem hx), nodup_of_map h.2⟩

theorem spec.Rows {u0 u : H} {fp : Nat → Option Tg} {b : Nat} {T : Tr} {K : Sl → H → Prop} (h : In u0 u fp b T) (hT : TOk T) (hK : ∀ s ls u', RowsO u u' s ls → (ls.map Rw.pr).Perm (ixRows T) → (ls.Pairwise fun a b => a.id ≤ b.id) → K s u') :
    C.vptree_Tree__Rows (some ⟨b, 0, none⟩) u K := by
  have hsm := hT.small
  apply vc.vptree_Tree__Rows
  refine ⟨fun e => (by cases e), fun _ => ⟨_, rfl, _, H.cell?_of h.tr.cell 4, sem_range mapTy h.tr.map fun r o hr hit0 => ?_⟩⟩
  have l0 := H.le_ins (u := u) (b := r) o hr
  refine ⟨fun s w => ∃ rw : List Rw, IterAt w r T.m (entL T.w) (rw.map fun x => (x.id, .slice x.s.a x.s.n x.s.c)) ∧ OwnF u w 43 2 s (rw.flatMap encR) ∧ s.blk ≠ some r ∧ ∀ x ∈ rw, (x.id, (x.s, x.v)) ∈ T.w, fun s _ => 1000000 - s.n,
    ⟨[], hit0, OwnF.nil l0 _ _, by simp [Sl.blk], fun x hx => (by cases hx)⟩, ?_⟩
  rintro s w ⟨rw, hit, ho, hsr, hrw⟩
  have hsn : s.n = rw.length := flat_n encR_len (by decide) ho.own.seg
  have hrl : rw.length ≤ 512 := by
    have h1 := hit.sub
    have h2 := hit.dn
    rw [List.map_map] at h2
    have h3 : (rw.map (·.id)).length ≤ (T.w.map (·.1)).length := (nodup_len h2 fun x hx => by
      obtain ⟨y, hy, rfl⟩ := List.mem_map.1 hx
      exact List.mem_map.2 ⟨_, hrw y hy, rfl⟩).1
    rw [List.length_map, List.length_map] at h3
    omega
  refine nextT_of hit (fun hperm => ?_) fun p o2 hp hnp hit2 => ?_
  · have hR : Rws w s rw := ⟨ho.own.seg, fun x hx => ((h.tr.vec _ (hrw x hx)).1).mono ho.le⟩
    have hpr : (rw.map Rw.pr).Perm (ixRows T) := by
      have hnd := hit.dn
      rw [List.map_map] at hnd
      have hlen := hperm.length_eq
      simp only [List.length_map, entL] at hlen
      have hnd2 : (T.w.map (·.1)).Nodup := by rw [← keys_ix]; exact h.tr.wnodup
      have hsub : ∀ x ∈ rw.map Rw.pr, x ∈ ixRows T := fun x hx => by
        obtain ⟨y, hy, rfl⟩ := List.mem_map.1 hx
        exact List.mem_map.2 ⟨_, hrw y hy, rfl⟩
      have hn3 : (rw.map Rw.pr).Nodup := by
        have : (rw.map (·.id)).Nodup := hnd
        rw [show rw.map (·.id) = (rw.map Rw.pr).map (·.1) by rw [List.map_map]; rfl] at this
        exact nodup_of_map this
      exact (nodup_len hn3 hsub).2 (by simp [ixRows]; omega)
    refine spec.flat_Own hR (fun x hx => hT.ids _ (hrw x hx)) (by omega) (fun x hx => ?_) fun s2 ls u2 hR2 hp2 hs2 => ?_
    · have h8 : (x.v.length : Int) = T.dim := (hT.vec _ (hrw x hx)).1
      have := hT.dm
      omega
    · exact hK s2 ls u2 ⟨hR2.own.weaken ho.le, fun r hr => (hR2.inner r hr).weaken ho.le, hR2.far, hR2.apart⟩ (hp2.trans hpr) hs2
  · obtain ⟨e, he, hpe⟩ := List.mem_map.1 hp
    subst hpe
    refine entT_of hit2 ?_
    have ho2 : OwnF u (w.ins r o2) 43 2 s (rw.flatMap encR) := ho.insOut hr hsr o2
    refine sem_push' tRows (build_row1 e.1 e.2.1) (by decide) rfl (by simp [Value.oneCell']) ho2 (by show s.n < _; omega) (by show (s.n + 1) * _ ≤ _; omega) fun s' u' ho' hn' he' hbl _ => ⟨⟨rw ++ [⟨e.1, e.2.1, e.2.2⟩], ?_, ?_, fun e2 => ?_, fun x hx => ?_⟩, ?_⟩
    · rw [List.map_append]
      refine hit2.else (fun o' ho3 => he' _ _ ho3 fun e3 => ?_) fun o' ho3 => he' _ _ ho3 hsr
      have := ho.fresh _ e3
      exact h.known T.m (by rw [h.tr.mtag]; simp) this
    · rw [List.flatMap_append]; exact ho'
    · rcases hbl r e2 with h4 | h4
      · exact hsr h4
      · rw [H.ins_same] at h4; cases h4
    · rcases List.mem_append.1 hx with hx | hx
      · exact hrw x hx
      · obtain rfl := List.mem_singleton.1 hx
        exact he
    · show 1000000 - s'.n < 1000000 - s.n
      omega

def parts (X : Tr) : List Pt := (X.root.map PN.pt).toList
noncomputable def walkV (X : Tr) (q : List Int) (k bud : Int) : WS := walkE q k bud (parts X)
noncomputable def ixH (X : Tr) (q : List Int) (k bud : Int) : List Hit := topW q k (walkV X q k bud)
noncomputable def ixS (X : Tr) (q : List Int) (k bud : Int) : List Int := sortI ((walkV X q k bud).seen.map (·.1))
noncomputable def ixR (X : Tr) (q : List Int) (k bud : Int) : List (Int × Int × List Int × List Int × List Int) := (leftW (walkV X q k bud)).map coreW

theorem parts_all (X : Tr) : Pt.allL (parts X) = rootAll X := by
  unfold parts rootAll
  cases X.root with
  | none => rfl
  | some n => show n.pt.all ++ [] = _; rw [List.append_nil]

theorem tPartsK : elemT Tryz.prog 94 = some (84, 1, 8, [.pointer none]) := by kernel_rfl
theorem build_partK (n : Nat) : buildOf Tryz.prog 94 1 #[(0, .pointer (some ⟨n, 0, none⟩))] = some (84, [.pointer (some ⟨n, 0, none⟩)]) := by kernel_rfl

theorem spec.Search {u0 u : H} {fp : Nat → Option Tg} {b : Nat} {T : Tr} {t : Sl} {q : List Int} {k bud : Int} {K : Sl → Sl → Sl → Int → H → Prop} (h : In u0 u fp b T) (hT : TOk T) (hgas : T.gas ≤ 2700) (ht : Ints u t q)
    (hbad : askErr q T.dim k bud ≠ 0 → K ⟨none, 0, 0⟩ ⟨none, 0, 0⟩ ⟨none, 0, 0⟩ (askErr q T.dim k bud) u)
    (hok : askErr q T.dim k bud = 0 → ∀ sh ss sr rest u', AnsO u u' sh ss sr (ixH T q k bud) (ixS T q k bud) rest → rest.map Rgn.core = ixR T q k bud → K sh ss sr 0 u') : C.vptree_Tree__Search (some ⟨b, 0, none⟩) t k bud u K := by
  apply vc.vptree_Tree__Search
  refine ⟨fun e => (by cases e), fun _ => ⟨_, rfl, _, H.cell?_of h.tr.cell 0, spec.flat_Asked ht ⟨fun hne => hbad hne, fun he => ?_⟩⟩⟩
  obtain ⟨hv, k1, k2, b0, b1⟩ := askErr_ok.1 he
  obtain ⟨_, _, hql, hvq⟩ := vcheck_ok hv
  have hok := hok he
  have hal : (Pt.allL (parts T)).length ≤ 100000 := by
    rw [parts_all, hT.rows.length_eq]
    have := hT.small
    simp [ixRows]
    omega
  have hrows : ∀ x ∈ Pt.allL (parts T), (x.2.length : Int) = q.length ∧ vok x.2 := fun x hx => by
    rw [parts_all] at hx
    obtain ⟨e, he', rfl⟩ := List.mem_map.1 (hT.rows.mem_iff.1 hx)
    obtain ⟨v1, v2⟩ := hT.vec e he'
    exact ⟨by rw [v1, hql], v2⟩
  have hsz : Pt.sizeL (parts T) ≤ 4000000 := by
    unfold parts
    cases hr : T.root with
    | none => show 0 ≤ _; omega
    | some n =>
      have := hT.size n hr
      show n.pt.size + 0 ≤ _
      rw [PN.pt_size]
      omega
  have hpok : ∀ p ∈ parts T, PtOk q.length p := fun p hp => by
    unfold parts at hp
    cases hr : T.root with
    | none => rw [hr] at hp; cases hp
    | some n =>
      rw [hr] at hp
      obtain rfl : p = n.pt := by simpa using hp
      rw [hql]
      exact hT.ok n hr
  -- the walk
  have walk : ∀ (s : Sl) (ms : List Nat) (z : H), u.le z → Seg z s 1 (ms.map fun n => .pointer (some ⟨n, 0, none⟩)) → ms.length = (parts T).length → (∀ (i : Nat) m p, ms[i]? = some m → (parts T)[i]? = some p → PartAt z m p) → C.flat_Walk s t k bud z (fun s6 s7 s8 u9 => K s6 s7 s8 0 u9) := by
    intro s ms z hz hs hlen hp
    refine spec.flat_Walk hs hlen hp hpok (ht.mono hz) hvq k1 k2 b0 b1 hsz hal hrows fun sh ss sr R u' ha hcore => hok sh ss sr R u' ?_ hcore
    exact ⟨ha.h.weaken hz, ha.s.weaken hz, ha.r.weaken hz, fun r hr => ⟨(ha.g r hr).l.weaken hz, (ha.g r hr).h.weaken hz, (ha.g r hr).i.weaken hz⟩, ha.far⟩
  obtain ⟨p5, hp5⟩ : ∃ p5 : Option Addr, p5 = T.root.map fun n => ⟨n.b, 0, none⟩ := ⟨_, rfl⟩
  have cr : u.cell? ((Addr.mk b 0 none).add 3) = some (.pointer p5) := by
    rw [hp5]
    exact H.cell?_of h.tr.cell 3
  refine ⟨_, rfl, p5, cr, fun he0 => ?_, fun hne => ⟨_, rfl, p5, cr, ?_⟩⟩
  · cases hr : T.root with
    | some n => rw [hr] at hp5; rw [he0] at hp5; cases hp5
    | none => exact walk ⟨none, 0, 0⟩ [] u (H.le.refl u) ⟨rfl, Nat.le_refl _, by decide, .inl rfl⟩ (by unfold parts; rw [hr]; rfl) fun i m p hm => by simp at hm
  · cases hr : T.root with
    | none => rw [hr] at hp5; exact absurd hp5 hne
    | some n =>
      rw [hr] at hp5
      rw [show p5 = some ⟨n.b, 0, none⟩ from hp5]
      refine sem_build (build_partK n.b) fun g hg => ?_
      obtain ⟨q1, _⟩ := h.tr.one n hr
      have l1 := H.le_ins (u := u) (b := g) (.cells [Value.pointer (some ⟨n.b, 0, none⟩)].toArray 84 (0, 0)) hg
      have mk := OwnF.make (k := 1) (H.le.refl u) hg (cells := [Value.pointer (some ⟨n.b, 0, none⟩)].toArray) (e := 84) (n := 1) (by omega) rfl
      refine walk _ [n.b] _ l1 mk.own.seg (by unfold parts; rw [hr]; rfl) fun i m p hm hp => ?_
      have hi : i = 0 := by
        have := (List.getElem?_eq_some_iff.1 hm).1
        simpa using this
      subst hi
      obtain rfl : n.b = m := Option.some.inj hm
      have hp' : p = n.pt := by
        unfold parts at hp
        rw [hr] at hp
        exact (Option.some.inj hp).symm
      rw [hp']
      exact (PnAt.part q1).mono l1

theorem tree_sound {X : Tr} (h : TOk X) {q : List Int} {k bud : Int} (hk : 1 ≤ k) (hb : 0 ≤ bud) (hd : (q.length : Int) = X.dim) {L : List Rw} (hL : (L.map Rw.pr).Perm (ixRows X)) (hq : Qok L q) {rest : List Rgn} (hr : rest.map Rgn.core = ixR X q k bud) :
    Sound L q k (ixH X q k bud) (ixS X q k bud) rest ∧ ((ixS X q k bud).length : Int) ≤ bud ∧ (((ixS X q k bud).length : Int) = bud ∨ (ixS X q k bud).length = L.length ∨ CertA q k (ixH X q k bud) rest) := by
  refine walk_sound hb hk (fun p hp => ?_) hq ?_ hr
  · unfold parts at hp
    cases hr' : X.root with
    | none => rw [hr'] at hp; cases hp
    | some n =>
      rw [hr'] at hp
      obtain rfl : p = n.pt := by simpa using hp
      rw [hd]
      exact h.ok n hr'
  · rw [parts_all]
    exact hL.trans h.rows.symm

end Go.Proofs.YtncgdoeobblnkaaGreat.Vp

/- VcVp4 -/
namespace Go.Proofs.YtncgdoeobblnkaaGreat.Vp

def ixErr (l : List Rw) (dim a : Int) : Int := if rcheck l dim ≠ 0 then rcheck l dim else if a < 1 ∨ 64 < a then 1 else 0

structure BuildRes (u : H) (l : List Rw) (dm a : Int) (u' : H) (bt : Nat) (fp : Nat → Option Tg) (T : Tr) : Prop where
  is : In u u' fp bt T
  ok : TOk T
  rows : (ixRows T).Perm (l.map Rw.pr)
  dim : T.dim = dm
  leaf : T.leaf = a
  gas : T.gas = 0

def entR (r : Rw) : Int × (Sl × List Int) := (r.id, (r.s, r.v))

theorem st_root {u : H} {n src : Nat} {d a : Int} {p p' : Option Addr} {m : Option Nat} {f : H → Prop} (h : u n = some (.cells #[.int .i64 d, .int .i64 a, .pointer (some ⟨src, 0, none⟩), .pointer p, .map m] 87 (0, 0)))
    (hf : f (u.ins n (.cells #[.int .i64 d, .int .i64 a, .pointer (some ⟨src, 0, none⟩), .pointer p', .map m] 87 (0, 0)))) : H.St u (Addr.add (Addr.mk n 0 none) 3) [.pointer p'] f :=
  ⟨_, _, h, rfl, by simp [Addr.add_lit], by simp [Value.oneCell'], hf⟩

theorem spec.Build {s : Sl} {l : List Rw} {dim a seed : Int} {u : H} {K : Option Addr → Int → H → Prop} (hs : Rws u s l) (hbad : ixErr l dim a ≠ 0 → K none (ixErr l dim a) u)
    (hok : ixErr l dim a = 0 → ∀ u' bt fp T, BuildRes u l dim a u' bt fp T → K (some ⟨bt, 0, none⟩) 0 u') : C.vptree_Build s dim a seed u K := by
  have bad : ∀ z, ixErr l dim a = z → z ≠ 0 → K none z u := fun z e hz => by subst e; exact hbad hz
  apply vc.vptree_Build
  refine spec.flat_Check hs ⟨fun hne => bad _ (by unfold ixErr; rw [if_pos hne]) hne, fun he => ?_⟩
  have one : (a < 1 ∨ 64 < a) → K none 1 u := fun hc => bad 1 (by unfold ixErr; rw [if_neg (by simpa using he), if_pos hc]) (by decide)
  intro K2 h2
  refine ⟨fun h => one (.inl h), fun a1 => ⟨fun h => one (.inr h), fun a2 => h2 _ _ _ ?_⟩⟩
  have hok := hok (by unfold ixErr; rw [if_neg (by simpa using he), if_neg (by omega)])
  clear bad one hbad h2 K2
  have hrok := rcheck_ok.1 he
  obtain ⟨dm1, dm2⟩ := hrok.dim
  have hl512 := hrok.len
  apply vc.rand_New
  intro n6 hn6
  obtain ⟨u6, hu6⟩ : ∃ u6, u6 = u.ins n6 (.cells #[.int .u64 seed] 164 (0, 0)) := ⟨_, rfl⟩
  have l6 : u.le u6 := by rw [hu6]; exact H.le_ins _ hn6
  have d6 : u6 n6 = some (.cells #[.int .u64 seed] 164 (0, 0)) := by rw [hu6]; exact H.ins_same _ _ _
  rw [← hu6]
  refine sem_mkmap fun m om hm hmap => ?_
  have hmu : u m = none := l6.none hm
  have h6m : n6 ≠ m := fun e => by rw [← e, d6] at hm; cases hm
  have lm := H.le_ins (u := u6) (b := m) om hm
  obtain ⟨u7, hu7⟩ : ∃ u7, u7 = u6.ins m om := ⟨_, rfl⟩
  have hm7 : u7 m ≠ none := by rw [hu7, H.ins_same]; simp
  rw [← hu7] at hmap lm ⊢
  intro n8 hn8
  have hnm : n8 ≠ m := fun e => by rw [e] at hn8; exact hm7 hn8
  have hnu6 : u6 n8 = none := lm.none hn8
  have hnu : u n8 = none := l6.none hnu6
  have h68 : n6 ≠ n8 := fun e => by rw [← e, d6] at hnu6; cases hnu6
  obtain ⟨o8, ho8⟩ : ∃ o8, o8 = (Obj.cells #[.int .i64 dim, .int .i64 a, .pointer (some ⟨n6, 0, none⟩), .pointer none, .map (some m)] 87 (0, 0)) := ⟨_, rfl⟩
  show C.flat_Own s (u7.ins n8 (Obj.cells #[.int .i64 dim, .int .i64 a, .pointer (some ⟨n6, 0, none⟩), .pointer none, .map (some m)] 87 (0, 0))) _
  rw [← ho8]
  have l8 := H.le_ins (u := u7) (b := n8) o8 hn8
  obtain ⟨u8, hu8⟩ : ∃ u8, u8 = u7.ins n8 o8 := ⟨_, rfl⟩
  have h88 : u8 n8 = some o8 := by rw [hu8]; exact H.ins_same _ _ _
  rw [← hu8] at l8 ⊢
  have hm8 : u8 m ≠ none := fun e => hm7 (l8.none e)
  have lu8 : u.le u8 := l6.trans (lm.trans l8)
  have d68 : u8 n6 = some (.cells #[.int .u64 seed] 164 (0, 0)) := l8 _ _ (lm _ _ d6)
  refine spec.flat_Own (hs.mono lu8) hrok.id (by omega) (fun r hr => by have := (hrok.v r hr).1; omega) fun s9 ls u10 hR hp hsrt => ?_
  have hRl : ls.length = l.length := by simpa using hp.length_eq
  have hlok : Rok ls dim := by
    refine rok_pr hrok.dim (by omega) ?_ fun p hp' => ?_
    · rw [show ls.map (·.id) = (ls.map Rw.pr).map (·.1) by rw [List.map_map]; rfl, (hp.map (·.1)).nodup_iff, List.map_map]
      exact hrok.nodup
    · obtain ⟨r, hr, rfl⟩ := List.mem_map.1 (hp.mem_iff.1 hp')
      exact ⟨(hrok.id r hr).1, (hrok.id r hr).2, (hrok.v r hr).1, (hrok.v r hr).2⟩
  have l10 := hR.own.le
  have h9n : s9.n = ls.length := hR.rws.len
  have hs9m : s9.blk ≠ some m := fun e => hm8 (hR.own.fresh m e)
  have hs98 : s9.blk ≠ some n8 := fun e => by have := hR.own.fresh n8 e; rw [h88] at this; cases this
  have hrm : ∀ r ∈ ls, r.s.blk ≠ some m := fun r hr e => hm8 ((hR.inner r hr).fresh m e)
  have hr8 : ∀ r ∈ ls, r.s.blk ≠ some n8 := fun r hr e => by have := (hR.inner r hr).fresh n8 e; rw [h88] at this; cases this
  have hs96 : s9.blk ≠ some n6 := fun e => by have := hR.own.fresh n6 e; rw [d68] at this; cases this
  have hr6 : ∀ r ∈ ls, r.s.blk ≠ some n6 := fun r hr e => by have := (hR.inner r hr).fresh n6 e; rw [d68] at this; cases this
  -- the map
  refine ⟨fun x w => 0 ≤ x ∧ x ≤ s9.n ∧ MapAt w m (entL ((ls.take x.toNat).map entR)) ∧ (∀ c o, u10 c = some o → c ≠ m → w c = some o) ∧ w m ≠ none, fun x _ => ((s9.n : Int) - x).toNat, ⟨by omega, by omega, (hmap.mono l8).mono l10, fun c o hc _ => hc, fun e => hm8 (l10.none e)⟩, ?_⟩
  rintro x w ⟨x0, x1, hmw, hew, hkm⟩
  have h8w : w n8 = some o8 := hew _ _ (l10 _ _ h88) hnm
  have d6w : w n6 = some (.cells #[.int .u64 seed] 164 (0, 0)) := hew _ _ (l10 _ _ d68) h6m
  have hRw : Rws w s9 ls := ⟨Seg.else hR.own.own.seg fun g o hg ho => hew g o ho fun e => hs9m (by rw [hg, e]), fun r hr => Seg.else (hR.inner r hr).ints fun g o hg ho => hew g o ho fun e => hrm r hr (by rw [hg, e])⟩
  refine ⟨fun hx => ?_, fun hx => ?_⟩
  · obtain ⟨p, hpp, r, hr, c0, c1, _⟩ := hRw.at x0 hx
    have hxl : x.toNat < ls.length := by omega
    refine ⟨p, hpp, ⟨x0, hx⟩, _, c0, _, c1, _, by rw [ho8] at h8w; exact H.cell?_of h8w 4, ?_⟩
    have hne : getL (entL ((ls.take x.toNat).map entR)) r.id = none := getL_none.2 fun hm' => by
      unfold entL at hm'
      rw [List.map_map, List.map_map] at hm'
      obtain ⟨z, hz, hzi⟩ := List.mem_map.1 hm'
      have hzid : z.id = r.id := hzi
      have hnd := hlok.nodup
      rw [← List.take_append_drop x.toNat ls, List.map_append, List.nodup_append] at hnd
      refine hnd.2.2 z.id (List.mem_map_of_mem hz) r.id (List.mem_map_of_mem ?_) hzid
      exact List.mem_of_getElem? (i := 0) (by rw [List.getElem?_drop, Nat.add_zero]; exact hr)
    refine sem_put mapTy hmw hne fun o hmo => ⟨⟨by omega, by omega⟩, ⟨by omega, by omega, ?_, fun c o' hc hne' => ?_, by rw [H.ins_same]; simp⟩, by dsimp only; omega⟩
    · rw [show (x + 1).toNat = x.toNat + 1 by omega, List.take_add_one, hr, List.map_append]
      unfold entL at hmo ⊢
      rw [List.map_append]
      exact hmo
    · rw [H.ins_other _ _ hne']; exact hew c o' hc hne'
  · rw [List.take_of_length_le (by omega)] at hmw
    -- cut
    obtain ⟨ub, hub⟩ : ∃ ub, ub = H.no (H.sans w s9) n6 := ⟨_, rfl⟩
    have ub6 : ub n6 = none := by rw [hub]; exact no_self _ _
    have ubx : ∀ {c}, c ≠ n6 → s9.blk ≠ some c → ub c = w c := fun h1 h2 => by rw [hub, no_at h1, sans_at h2]
    have lub : ub.le w := by rw [hub]; exact (no_le _ _).trans (sans_le _ _)
    have how : OwnF ub w 43 2 s9 (ls.flatMap encR) := ⟨hR.own.own.le fun c o hc ho => hew c o ho fun e => hs9m (by rw [hc, e]), lub, fun g hg => by
      rw [hub]
      refine (no_le _ _).none ?_
      unfold H.sans
      exact if_pos hg⟩
    have ub8 : ub n8 = some o8 := by rw [ubx (Ne.symm h68) hs98]; exact h8w
    have hvb : ∀ r ∈ ls, Ints ub r.s r.v := fun r hr => Seg.else (hRw.2 r hr) fun g o hg ho => by
      rw [ubx (fun e => hr6 r hr (by rw [hg, e])) ((hR.far r hr).symm g hg)]
      exact ho
    have hvk : ∀ r ∈ ls, ∀ g, r.s.blk = some g → ub g ≠ none ∧ g ≠ n8 ∧ g ≠ m ∧ g ≠ n6 := fun r hr g hg => by
      have e1 : g ≠ m := fun e => hrm r hr (by rw [hg, e])
      have e6 : g ≠ n6 := fun e => hr6 r hr (by rw [hg, e])
      refine ⟨fun e => ?_, fun e => hr8 r hr (by rw [hg, e]), e1, e6⟩
      obtain ⟨o, ho⟩ := Option.ne_none_iff_exists'.1 (own_known (hR.inner r hr) hg)
      rw [ubx e6 ((hR.far r hr).symm g hg), hew g o ho e1] at e
      cases e
    have uw : ∀ c o, u c = some o → w c = some o ∧ s9.blk ≠ some c := fun c o hc => ⟨hew c o (l10 c o (lu8 c o hc)) (fun e => (by rw [e, hmu] at hc; cases hc)), fun e => (by have := hR.own.fresh c e; rw [lu8 c o hc] at this; cases this)⟩
    have uub : u.le ub := fun c o hc => by
      obtain ⟨h1, h2⟩ := uw c o hc
      rw [ubx (fun e => by rw [e, hn6] at hc; cases hc) h2]; exact h1
    have ubm : ub m ≠ none := by rw [ubx (Ne.symm h6m) hs9m]; exact hkm
    have fin : ∀ (root : Option PN) (u21 : H), (∀ c o, w c = some o → s9.blk ≠ some c → c ≠ n6 → u21 c = some o) → SrcAt u21 n6 → (∀ n, root = some n → (∀ x ∈ n.heads, PhAt u21 x) ∧ n.own.Nodup ∧ (∀ c ∈ n.own, ub c = none ∧ u21 c ≠ none ∧ c ≠ n6) ∧ (∀ x ∈ n.heads, ∀ r ∈ x.1.rows, r ∈ ls) ∧ PtOk dim n.pt ∧ PtSh 3 n.pt ∧ PtBin n.pt ∧ n.heads.length + 1 ≤ 2 * ls.length) →
        (match root with | none => ([] : List Prw) | some n => n.pt.all).Perm (ls.map Rw.pr) → H.St u21 (Addr.add (Addr.mk n8 0 none) 3) [.pointer (root.map fun n => ⟨n.b, 0, none⟩)] fun u22 => K (some ⟨n8, 0, none⟩) 0 u22 := by
      intro root u21 f1 f1s f2 f3
      have h821 : u21 n8 = some o8 := f1 _ _ h8w hs98 (Ne.symm h68)
      rw [ho8] at h821
      refine st_root h821 ?_
      obtain ⟨T, hT⟩ : ∃ T : Tr, T = ⟨dim, a, n6, root, m, ls.map entR, 0⟩ := ⟨_, rfl⟩
      obtain ⟨u22, hu22⟩ : ∃ u22, u22 = u21.ins n8 (.cells #[.int .i64 dim, .int .i64 a, .pointer (some ⟨n6, 0, none⟩), .pointer (root.map fun n => ⟨n.b, 0, none⟩), .map (some m)] 87 (0, 0)) := ⟨_, rfl⟩
      rw [← hu22]
      have g1 : ∀ c o, u21 c = some o → c ≠ n8 → u22 c = some o := fun c o hc hne => by rw [hu22, H.ins_other _ _ hne]; exact hc
      have own8 : ∀ n, root = some n → n8 ∉ n.own ∧ m ∉ n.own ∧ ∀ r ∈ ls, ∀ g, r.s.blk = some g → g ∉ n.own := fun n hn => by
        obtain ⟨_, _, q3, _⟩ := f2 n hn
        exact ⟨fun e => (by have := (q3 n8 e).1; rw [ub8] at this; cases this), fun e => ubm (q3 m e).1, fun r hr g hg e => (hvk r hr g hg).1 (q3 g e).1⟩
      obtain ⟨fp, hfp⟩ : ∃ fp : Nat → Option Tg, fp = fun c => open Classical in if c = n8 then some .tree else if c = m then some .map else if ∃ n, root = some n ∧ c ∈ n.own then some .node else if ∃ r ∈ ls, r.s.blk = some c then some .vec else if c = n6 then some .src else none := ⟨_, rfl⟩
      have p1 : fp n8 = some .tree := by rw [hfp]; exact if_pos rfl
      have p2 : fp m = some .map := by
        rw [hfp]
        show (if m = n8 then _ else _) = _
        rw [if_neg (Ne.symm hnm), if_pos rfl]
      have p3 : ∀ n c, root = some n → c ∈ n.own → fp c = some .node := fun n c hn hc => by
        obtain ⟨e1, e2, _⟩ := own8 n hn
        rw [hfp]
        show (if c = n8 then _ else _) = _
        rw [if_neg (fun e => e1 (by rw [← e]; exact hc)), if_neg (fun e => e2 (by rw [← e]; exact hc)), if_pos ⟨n, hn, hc⟩]
      have p4 : ∀ r ∈ ls, ∀ g, r.s.blk = some g → fp g = some .vec := fun r hr g hg => by
        obtain ⟨_, e1, e2, _⟩ := hvk r hr g hg
        rw [hfp]
        show (if g = n8 then _ else _) = _
        rw [if_neg e1, if_neg e2, if_neg (fun ⟨n, hn, hc⟩ => (own8 n hn).2.2 r hr g hg hc), if_pos ⟨r, hr, hg⟩]
      have p6 : fp n6 = some .src := by
        rw [hfp]
        show (if n6 = n8 then _ else _) = _
        rw [if_neg h68, if_neg h6m, if_neg (fun ⟨n, hn, hc⟩ => ((f2 n hn).2.2.1 n6 hc).2.2 rfl), if_neg (fun ⟨r, hr, hg⟩ => hr6 r hr hg), if_pos rfl]
      have p5 : ∀ c, fp c ≠ none → c = n8 ∨ c = m ∨ (∃ n, root = some n ∧ c ∈ n.own) ∨ (∃ r ∈ ls, r.s.blk = some c) ∨ c = n6 := fun c hc => by
        rw [hfp] at hc
        by_cases e1 : c = n8
        · exact .inl e1
        · by_cases e2 : c = m
          · exact .inr (.inl e2)
          · by_cases e3 : ∃ n, root = some n ∧ c ∈ n.own
            · exact .inr (.inr (.inl e3))
            · by_cases e4 : ∃ r ∈ ls, r.s.blk = some c
              · exact .inr (.inr (.inr (.inl e4)))
              · by_cases e5 : c = n6
                · exact .inr (.inr (.inr (.inr e5)))
                · exact absurd (by
                    show (if c = n8 then _ else _) = _
                    rw [if_neg e1, if_neg e2, if_neg e3, if_neg e4, if_neg e5]) hc
      have vec22 : ∀ r ∈ ls, Ints u22 r.s r.v := fun r hr => Seg.else (hRw.2 r hr) fun g o hg ho => g1 g o (f1 g o ho ((hR.far r hr).symm g hg) (hvk r hr g hg).2.2.2) (hvk r hr g hg).2.1
      have hix : ixRows T = ls.map Rw.pr := by
        rw [hT]
        unfold ixRows
        rw [List.map_map]
        rfl
      have h22 : u22 n8 = some (.cells (treeC T).toArray 87 (0, 0)) := by rw [hu22, H.ins_same, hT]; rfl
      have hm22 : MapAt u22 m (entL (ls.map entR)) := hmw.else fun o ho => g1 m o (f1 m o ho hs9m (Ne.symm h6m)) (Ne.symm hnm)
      refine hok u22 n8 fp T ⟨⟨⟨h22, p1, by rw [hT]; exact hm22, by rw [hT]; exact p2, by rw [hT]; exact f1s.elim fun st hst => ⟨st, g1 _ _ hst h68⟩, by rw [hT]; exact p6, fun e hem => ?_, fun n hn => ?_⟩, fun c o hc => ?_, fun c hc => ?_, fun c hc => ?_⟩, ⟨by rw [hT]; exact ⟨dm1, dm2⟩, by rw [hT]; exact ⟨by show 1 ≤ a; omega, by show a ≤ 64; omega⟩, fun e hem => ?_, fun e hem => ?_, by rw [hT]; show (ls.map entR).length ≤ 512; rw [List.length_map]; omega, ?_, fun n hn => ?_, fun n hn => (by rw [hT] at hn; exact (f2 n hn).2.2.2.2.2.1), fun n hn => (by rw [hT] at hn; exact (f2 n hn).2.2.2.2.2.2.1), fun n hn => ?_⟩, by rw [hix]; exact hp, by rw [hT], by rw [hT], by rw [hT]⟩
      · rw [hT] at hem
        obtain ⟨r, hr, rfl⟩ := List.mem_map.1 hem
        exact ⟨vec22 r hr, p4 r hr⟩
      · rw [hT] at hn
        obtain ⟨q1, q2, q3, q4, _⟩ := f2 n hn
        obtain ⟨e1, _, _⟩ := own8 n hn
        refine ⟨fun x hx => (q1 x hx).keep (fun c o hc ho => g1 c o ho fun e => e1 (by rw [← e]; exact List.mem_flatMap.2 ⟨x, hx, hc⟩)) fun r hr => vec22 r (q4 x hx r hr), q2, fun c hc => p3 n c hn hc, fun x hx r hr g hg => p4 r (q4 x hx r hr) g hg⟩
      · obtain ⟨h1, h3⟩ := uw c o hc
        exact g1 c o (f1 c o h1 h3 fun e => by rw [e, hn6] at hc; cases hc) fun e => by rw [e, hnu] at hc; cases hc
      · rcases p5 c hc with rfl | rfl | ⟨n, hn, hcn⟩ | ⟨r, hr, hrc⟩ | rfl
        · exact hnu
        · exact hmu
        · exact uub.none ((f2 n hn).2.2.1 c hcn).1
        · exact lu8.none ((hR.inner r hr).fresh c hrc)
        · exact hn6
      · rcases p5 c hc with rfl | rfl | ⟨n, hn, hcn⟩ | ⟨r, hr, hrc⟩ | rfl
        · rw [h22]; simp
        · obtain ⟨_, _, h4, _⟩ := hm22
          rw [h4]; simp
        · obtain ⟨o, ho⟩ := Option.ne_none_iff_exists'.1 ((f2 n hn).2.2.1 c hcn).2.1
          rw [g1 c o ho fun e => (own8 n hn).1 (by rw [← e]; exact hcn)]; simp
        · obtain ⟨o, ho⟩ := Option.ne_none_iff_exists'.1 (own_known (hR.inner r hr) hrc)
          obtain ⟨_, e1, e2, e6⟩ := hvk r hr c hrc
          rw [g1 c o (f1 c o (hew c o ho e2) ((hR.far r hr).symm c hrc) e6) e1]; simp
        · obtain ⟨st, hst⟩ := f1s
          rw [g1 c _ hst h68]; simp
      · rw [hT] at hem
        obtain ⟨r, hr, rfl⟩ := List.mem_map.1 hem
        exact hlok.id r hr
      · rw [hT] at hem ⊢
        obtain ⟨r, hr, rfl⟩ := List.mem_map.1 hem
        exact hlok.v r hr
      · rw [hix, hT]
        exact f3
      · rw [hT] at hn ⊢
        exact (f2 n hn).2.2.2.2.1
      · rw [hT] at hn ⊢
        have := (f2 n hn).2.2.2.2.2.2.2
        show n.heads.length ≤ 1100 * 0 + 2000
        omega
    rw [ho8] at ub8
    refine spec.cut (src := n6) (by omega) (H.cell?_of ub8 1) (H.cell?_of ub8 2) ub6 ⟨_, d6w⟩ hs96 how hvb hlok (fun e0 u' hu' => ?_) fun hne u' n hc => ?_
    · exact fin none u' (fun c o hc _ _ => hu' c o hc) ⟨_, hu' _ _ d6w⟩ (fun n hn => by cases hn) (by rw [e0]; exact .refl _)
    · exact fin (some n) u' (fun c o hc' hne' h6' => hc.else' c o hc' hne' h6') hc.src (fun n' hn' => by
        obtain rfl := Option.some.inj hn'
        exact ⟨hc.one, hc.nodup, hc.out, hc.rows, hc.ok, hc.shp, hc.bin, hc.size⟩) hc.all

end Go.Proofs.YtncgdoeobblnkaaGreat.Vp

/- VcVp5 -/
namespace Go.Proofs.YtncgdoeobblnkaaGreat.Vp

/-- A part's ball with a vector more. -/
def growH (h : PH) (v : List Int) : PH := { h with rad := if h.rad < sqTo h.lo v h.lo.length then sqTo h.lo v h.lo.length else h.rad }

theorem ball_of {d : Int} {h : PH} {ks : List PN} (hsh : h.sh = 3) (hp : PtOk d (PN.mk h ks).pt) : 1 ≤ d ∧ d ≤ 64 ∧ h.hi = [] ∧ vok h.lo ∧ (h.lo.length : Int) = d ∧ Dok h.rad := by
  have h1 := hp.reg
  rw [PN.pt_eq] at h1
  obtain ⟨hd, _, _, hs⟩ := h1
  rcases hs with ⟨e, _⟩ | ⟨e, _⟩ | ⟨_, e⟩
  · have : h.sh = 1 := e
    omega
  · have : h.sh = 2 := e
    omega
  · exact ⟨hd.1, hd.2, e.1, e.2.1, e.2.2.1, e.2.2.2⟩

theorem growH_ge (h : PH) (v : List Int) : h.rad ≤ (growH h v).rad ∧ sqTo h.lo v h.lo.length ≤ (growH h v).rad := by
  unfold growH
  by_cases e : h.rad < sqTo h.lo v h.lo.length
  · simp only [if_pos e]; omega
  · simp only [if_neg e]; omega

/-- A grown part is a part that may be, and holds the vector. -/
theorem grow_ok {d : Int} {h : PH} {ks : List PN} {v : List Int} (hsh : h.sh = 3) (hp : PtOk d (PN.mk h ks).pt) (hv : vok v) (hvd : (v.length : Int) = d) : PtOk d (PN.mk (growH h v) ks).pt ∧ Inside ((PN.mk (growH h v) ks).pt.rgn []) v := by
  obtain ⟨d1, d2, hi0, b1, b2, b3⟩ := ball_of hsh hp
  have h2 := hp.ins
  have h3 := hp.kids
  rw [PN.pt_eq] at h2 h3
  obtain ⟨g1, g2⟩ := growH_ge h v
  have dk : Dok (growH h v).rad := by
    unfold growH
    by_cases e : h.rad < sqTo h.lo v h.lo.length
    · simp only [if_pos e]; exact sqTo_ok b1 hv (by omega)
    · simp only [if_neg e]; exact b3
  have insV : Inside ((PN.mk (growH h v) ks).pt.rgn []) v := by
    rw [PN.pt_eq]
    refine ⟨fun e => ?_, fun _ => g2⟩
    have : h.sh = 2 := e
    omega
  refine ⟨?_, insV⟩
  rw [PN.pt_eq]
  refine .mk ⟨⟨d1, d2⟩, List.Pairwise.nil, fun x hx => (by cases hx), .inr (.inr ⟨hsh, hi0, b1, b2, dk⟩)⟩ (fun x hx => ?_) h3
  have hx' : x ∈ (Pt.mk h.sh h.lo h.hi h.rad (h.rows.map Rw.pr) (ks.map PN.pt)).all := hx
  obtain ⟨_, z⟩ := h2 x hx'
  refine ⟨fun e => ?_, fun _ => Int.le_trans (z hsh) g1⟩
  have : h.sh = 2 := e
  omega

theorem st_rad {u : H} {h : PH} (hc : u h.b = some (.cells (partC h).toArray 96 (0, 0))) (r : Int) {f : H → Prop}
    (hf : f (u.ins h.b (.cells (partC { h with rad := r }).toArray 96 (0, 0)))) : H.St u ((Addr.mk h.b 0 none).add 3) [.int .u64 (hiW r), .int .u64 (loW r)] f := by
  exact ⟨_, _, hc, rfl, by simp [partC, Addr.add_lit], by simp [Value.oneCell'], hf⟩

theorem spec.grow {ub u : H} {h : PH} {kb : List Nat} {s : Sl} {v : List Int} {K : Int → Int → H → Prop} (hv : Ints ub s v) (hub : ub.le u) (hph : PhAt u (h, kb)) (hnd : h.blks.Nodup) (hout : ∀ c ∈ h.blks, ub c = none) (hrv : ∀ r ∈ h.rows, Ints ub r.s r.v) (hlo : vok h.lo) (hvk : vok v) (h1 : h.lo.length = v.length) (h0 : 1 ≤ v.length) (_hrad : Dok h.rad)
    (hK : ∀ x y u', PhAt u' (growH h v, kb) → (∀ c o, u c = some o → c ∉ h.blks → u' c = some o) → (∀ c, u c ≠ none → u' c ≠ none) → K x y u') : C.vptree_grow (some ⟨h.b, 0, none⟩) s u K := by
  have hcell : u h.b = some (.cells (partC h).toArray 96 (0, 0)) := hph.cell
  apply vc.vptree_grow
  refine ⟨_, rfl, h.sl, H.cell?_of hcell 1, spec.vec_Dist hph.lo.f.ints (hv.mono hub) hlo (by show 1 ≤ h.lo.length; omega) hvk h1 fun x y hx hy hw => ⟨_, rfl, _, H.cell?_of hcell 3, _, H.cell?_of hcell 4, spec.wide_Cmp hy (loU _) ?_⟩⟩
  have hw : wv x y = sqTo h.lo v h.lo.length := hw
  rw [wv_hl, hw]
  by_cases e : h.rad < sqTo h.lo v h.lo.length
  · refine ⟨fun _ => ⟨_, rfl, ?_⟩, fun hn => absurd ?_ hn⟩
    · obtain ⟨ex, ey⟩ := wv_U hx hy
      rw [hw] at ex ey
      have hg : growH h v = { h with rad := sqTo h.lo v h.lo.length } := by unfold growH; rw [if_pos e]
      have key : H.St u ((Addr.mk h.b 0 none).add 3) [.int .u64 (hiW (sqTo h.lo v h.lo.length)), .int .u64 (loW (sqTo h.lo v h.lo.length))] fun u12 => K x y u12 := by
        refine st_rad hcell _ ?_
        rw [← hg]
        obtain ⟨w, hw'⟩ : ∃ w, w = u.ins h.b (.cells (partC (growH h v)).toArray 96 (0, 0)) := ⟨_, rfl⟩
        rw [← hw']
        have ew : ∀ c o, u c = some o → c ≠ h.b → w c = some o := fun c o hc hne => by rw [hw', H.ins_other _ _ hne]; exact hc
        have hubw : ub.le w := fun c o hc => ew c o (hub c o hc) fun e => by rw [e, hout h.b (List.mem_cons_self ..)] at hc; cases hc
        have nb : ∀ g, (h.sl.blk = some g ∨ h.sg.blk = some g ∨ h.sr.blk = some g ∨ h.sk.blk = some g) → g ≠ h.b := fun g hg e => by
          unfold PH.blks at hnd
          rw [List.nodup_cons] at hnd
          refine hnd.1 ?_
          rw [← e, List.mem_append, List.mem_append, List.mem_append]
          rcases hg with e | e | e | e
          · exact .inl (.inl (.inl (by rw [e]; simp)))
          · exact .inl (.inl (.inr (by rw [e]; simp)))
          · exact .inl (.inr (by rw [e]; simp))
          · exact .inr (by rw [e]; simp)
        refine hK x y w ⟨?_, hph.lo.le fun c o hc ho => ew c o ho (nb c (.inl hc)), hph.hi.le fun c o hc ho => ew c o ho (nb c (.inr (.inl hc))), hph.rws.le fun c o hc ho => ew c o ho (nb c (.inr (.inr (.inl hc)))), fun r hr => (hrv r hr).mono hubw, Seg.else hph.kid fun c o hc ho => ew c o ho (nb c (.inr (.inr (.inr hc))))⟩ (fun c o hc hm => ew c o hc fun e => hm (by rw [e]; exact List.mem_cons_self ..)) fun c hc => ?_
        · show w h.b = _
          rw [hw']; exact H.ins_same _ _ _
        · by_cases e2 : c = h.b
          · rw [e2, hw', H.ins_same]; simp
          · obtain ⟨o, ho⟩ := Option.ne_none_iff_exists'.1 hc
            rw [ew c o ho e2]; simp
      rw [← ex, ← ey] at key
      exact key
    · rw [if_neg (by omega), if_pos e]
      decide
  · have hg : growH h v = h := by unfold growH; rw [if_neg e]
    refine ⟨fun hp => absurd hp ?_, fun _ => hK x y u (by rw [hg]; exact hph) (fun c o hc _ => hc) fun c hc => hc⟩
    rw [if_neg e]
    split <;> decide

end Go.Proofs.YtncgdoeobblnkaaGreat.Vp

/- VcVp6 -/
namespace Go.Proofs.YtncgdoeobblnkaaGreat.Vp

structure PutRes (u0 u : H) (fp : Nat → Option Tg) (b : Nat) (T : Tr) (id : Int) (v : List Int) (u' : H) (fp' : Nat → Option Tg) (T' : Tr) : Prop where
  is : In u0 u' fp' b T'
  turn : TurnG u fp u' fp'
  ok : TOk T'
  rows : (ixRows T').Perm ((id, v) :: (ixRows T).filter fun x => x.1 != id)
  dim : T'.dim = T.dim
  leaf : T'.leaf = T.leaf
  gas : T'.gas ≤ T.gas + 1

/-- The tree with a row more, in memory. -/
structure PutFin (u1 : H) (fp : Nat → Option Tg) (b : Nat) (T : Tr) (id : Int) (s : Sl) (v : List Int) (u' : H) (r : PN) : Prop where
  cell : u' b = some (.cells (treeC { T with root := some r }).toArray 87 (0, 0))
  map : MapAt u' T.m (entL (T.w ++ [(id, (s, v))]))
  src : ∃ st, u' T.src = some (.cells #[.int .u64 st] 164 (0, 0))
  sv : Ints u' s v
  sk : ∀ g, s.blk = some g → u1 g = none ∧ u' g ≠ none
  keep : ∀ c o, u1 c = some o → fp c = none ∨ fp c = some .vec → u' c = some o
  kn : ∀ c, u1 c ≠ none → fp c ≠ some .node → u' c ≠ none
  one : ∀ x ∈ r.heads, PhAt u' x
  nodup : r.own.Nodup
  own : ∀ c ∈ r.own, (fp c = some .node ∨ (u1 c = none ∧ s.blk ≠ some c)) ∧ u' c ≠ none
  rws : ∀ x ∈ r.heads, ∀ y ∈ x.1.rows, ∀ g, y.s.blk = some g → fp g = some .vec ∨ s.blk = some g
  all : r.pt.all.Perm ((id, v) :: rootAll T)
  ok : PtOk T.dim r.pt
  shp : PtSh 3 r.pt
  bin : PtBin r.pt
  size : r.heads.length ≤ 1100 * (T.gas + 1) + 2000

theorem PutFin.res {u0 u1 u' : H} {fp : Nat → Option Tg} {b : Nat} {T : Tr} {id : Int} {s : Sl} {v : List Int} {r : PN} (f : PutFin u1 fp b T id s v u' r) (h : In u0 u1 fp b T) (hT : TOk T) (hid : 1 ≤ id ∧ id ≤ 1000000000) (hv : (v.length : Int) = T.dim ∧ vok v) (hl : T.w.length < 512) :
    ∃ fp' T', In u0 u' fp' b T' ∧ TurnG u1 fp u' fp' ∧ TOk T' ∧ (ixRows T').Perm ((id, v) :: ixRows T) ∧ T'.dim = T.dim ∧ T'.leaf = T.leaf ∧ T'.gas ≤ T.gas + 1 := by
  obtain ⟨T', hT'⟩ : ∃ T' : Tr, T' = { T with root := some r, w := T.w ++ [(id, (s, v))], gas := T.gas + 1 } := ⟨_, rfl⟩
  obtain ⟨fp', hfp⟩ : ∃ fp' : Nat → Option Tg, fp' = fun c => open Classical in if c ∈ r.own then some .node else if s.blk = some c then some .vec else if fp c = some .node then none else fp c := ⟨_, rfl⟩
  have q1 : ∀ c ∈ r.own, fp' c = some .node := fun c hc => by rw [hfp]; exact if_pos hc
  have q2 : ∀ c, s.blk = some c → fp' c = some .vec := fun c hc => by
    have hno : c ∉ r.own := fun hm => by
      rcases (f.own c hm).1 with e | e
      · exact h.known c (by rw [e]; simp) (f.sk c hc).1
      · exact e.2 hc
    rw [hfp]
    show (if c ∈ r.own then _ else _) = _
    rw [if_neg hno, if_pos hc]
  have q3 : ∀ c t, fp c = some t → t ≠ .node → fp' c = some t := fun c t hc ht => by
    have hk := h.known c (by rw [hc]; simp)
    have hno : c ∉ r.own := fun hm => by
      rcases (f.own c hm).1 with e | e
      · rw [hc] at e; exact ht (Option.some.inj e)
      · exact hk e.1
    have hns : s.blk ≠ some c := fun e => hk (f.sk c e).1
    rw [hfp]
    show (if c ∈ r.own then _ else _) = _
    rw [if_neg hno, if_neg hns, if_neg (by rw [hc]; exact fun e => ht (Option.some.inj e)), hc]
  have q4 : ∀ c, fp' c ≠ none → c ∈ r.own ∨ s.blk = some c ∨ (fp c ≠ none ∧ fp c ≠ some .node) := fun c hc => by
    by_cases e1 : c ∈ r.own
    · exact .inl e1
    · by_cases e2 : s.blk = some c
      · exact .inr (.inl e2)
      · by_cases e3 : fp c = some .node
        · exact absurd (by
            rw [hfp]
            show (if c ∈ r.own then _ else _) = _
            rw [if_neg e1, if_neg e2, if_pos e3]) hc
        · refine .inr (.inr ⟨fun e => hc ?_, e3⟩)
          rw [hfp]
          show (if c ∈ r.own then _ else _) = _
          rw [if_neg e1, if_neg e2, if_neg e3, e]
  have tr := h.tr
  refine ⟨fp', T', ⟨⟨by rw [hT']; exact f.cell, q3 _ _ tr.btag (by simp), by rw [hT']; exact f.map, by rw [hT']; exact q3 _ _ tr.mtag (by simp), by rw [hT']; exact f.src, by rw [hT']; exact q3 _ _ tr.stag (by simp), fun e he => ?_, fun n hn => ?_⟩, fun c o hc => ?_, fun c hc => ?_, fun c hc => ?_⟩, ⟨fun c o hc hf => f.keep c o hc (.inl hf), fun c hc => ?_⟩,
    ⟨by rw [hT']; exact hT.dm, by rw [hT']; exact hT.lf, fun e he => ?_, fun e he => ?_, ?_, ?_, fun n hn => ?_, fun n hn => ?_, fun n hn => ?_, fun n hn => ?_⟩, ?_, by rw [hT'], by rw [hT'], by rw [hT']; exact Nat.le_refl _⟩
  · rw [hT'] at he
    rcases List.mem_append.1 he with he | he
    · obtain ⟨v1, v2⟩ := tr.vec e he
      exact ⟨Seg.else v1 fun g o hg ho => f.keep g o ho (.inr (v2 g hg)), fun g hg => q3 g _ (v2 g hg) (by simp)⟩
    · rw [List.mem_singleton.1 he]
      exact ⟨f.sv, q2⟩
  · rw [hT'] at hn
    obtain rfl := Option.some.inj hn
    exact ⟨f.one, f.nodup, q1, fun x hx y hy g hg => (f.rws x hx y hy g hg).elim (fun e => q3 g _ e (by simp)) fun e => q2 g e⟩
  · refine f.keep c o (h.le c o hc) (.inl ?_)
    cases e : fp c with
    | none => rfl
    | some t => have := h.out c (by rw [e]; simp); rw [hc] at this; cases this
  · rcases q4 c hc with e | e | e
    · rcases (f.own c e).1 with e | e
      · exact h.out c (by rw [e]; simp)
      · exact h.le.none e.1
    · exact h.le.none (f.sk c e).1
    · exact h.out c e.1
  · rcases q4 c hc with e | e | e
    · exact (f.own c e).2
    · exact (f.sk c e).2
    · exact f.kn c (h.known c e.1) e.2
  · rcases q4 c hc with e | e | e
    · rcases (f.own c e).1 with e | e
      · exact .inl (by rw [e]; simp)
      · exact .inr e.1
    · exact .inr (f.sk c e).1
    · exact .inl e.1
  · rw [hT'] at he
    rcases List.mem_append.1 he with he | he
    · exact hT.ids e he
    · rw [List.mem_singleton.1 he]; exact hid
  · rw [hT'] at he ⊢
    rcases List.mem_append.1 he with he | he
    · exact hT.vec e he
    · rw [List.mem_singleton.1 he]; exact hv
  · rw [hT']
    show (T.w ++ [(id, (s, v))]).length ≤ 512
    rw [List.length_append]
    simp only [List.length_cons, List.length_nil]
    omega
  · rw [hT']
    show r.pt.all.Perm ((T.w ++ [(id, (s, v))]).map fun e => (e.1, e.2.2))
    rw [List.map_append]
    exact f.all.trans ((List.Perm.cons _ hT.rows).trans (List.perm_append_singleton _ _).symm)
  · rw [hT'] at hn ⊢
    obtain rfl := Option.some.inj hn
    exact f.ok
  · rw [hT'] at hn
    obtain rfl := Option.some.inj hn
    exact f.shp
  · rw [hT'] at hn
    obtain rfl := Option.some.inj hn
    exact f.bin
  · rw [hT'] at hn ⊢
    obtain rfl := Option.some.inj hn
    exact f.size
  · rw [hT']
    show ((T.w ++ [(id, (s, v))]).map fun e => (e.1, e.2.2)).Perm _
    rw [List.map_append]
    exact List.perm_append_singleton _ _

end Go.Proofs.YtncgdoeobblnkaaGreat.Vp
