/- What the operations that look at memory answer: append, slicing, makeSlice, buildSlice, maps of ints. -/
import Derived.Test.YtgfafpiinencpaaGreatVcUser
import Derived.Laws.AppendOwn
import Derived.Laws.MakeOwn
import Derived.Laws.Slices
import Derived.Laws.CopyRow
namespace Go.Proofs.YtgfafpiinencpaaGreat

theorem Step.newKnown {u : H} {w : World} (hw : Sub u w) (o : Obj) : Step u [] w (u.ins w.heap.size o) [] (w.alloc o) :=
  (Fits.newKnown (s := { n := 0, env := [], loc := [] }) (a := { tmps := #[], defers := [] }) (bs := []) (w := w) ⟨⟨rfl, rfl, fun _ h => by cases h⟩, rfl, fun _ _ h => by simp at h, by simp, by simp, hw⟩ o).2

/-- One answer of one kind. -/
theorem SemT.one {P : Program} {m : Sem Value} {c : CT} {u : H} {K : c.den → H → Prop}
    (h : ∀ w, Sub u w → ∃ x w' u', m.run P w = .ok (c.enc x) w' ∧ K x u' ∧ Step u [] w u' [] w') : SemT P m [.one c] u K := by
  intro w hw
  obtain ⟨x, w', u', h1, h2, h3⟩ := h w hw
  exact ⟨_, w', u', h1, ⟨[c.enc x], .cons x .nil, rfl, (CT.un_enc c x _).2 h2⟩, h3⟩

/-- An answer that leaves the world alone, of one kind. -/
theorem SemT.one' {P : Program} {m : Sem Value} {c : CT} {u : H} {K : c.den → H → Prop} (x : c.den) (h : ∀ w, Sub u w → m.run P w = .ok (c.enc x) w) (hK : K x u) : SemT P m [.one c] u K :=
  .one fun w hw => ⟨x, w, u, h w hw, hK, Step.refl hw⟩

/-- A slice type's element: its type, cells, bytes, zero. -/
def elemT (P : Program) (t : TypeId) : Option (TypeId × Nat × Nat × List Value) :=
  match P.underlying t with
  | some (.slice e) => match P.info? e with
    | some i => match i.zero with
      | some z => match Nat.beq z.cells.size i.size with
        | true => some (e, i.size, i.bytes, z.cells.toList)
        | false => none
      | none => none
    | none => none
  | _ => none

theorem elemT_spec {P : Program} {t e : TypeId} {size bytes : Nat} {zs : List Value} (h : elemT P t = some (e, size, bytes, zs)) :
    P.underlying t = some (.slice e) ∧ ∃ i z, P.info? e = some i ∧ i.zero = some z ∧ i.size = size ∧ i.bytes = bytes ∧ z.cells.size = size ∧ z.cells.toList = zs := by
  unfold elemT at h
  split at h
  · rename_i e' hu
    split at h
    · rename_i i hi
      split at h
      · rename_i z hz
        split at h
        · rename_i hb
          cases h
          exact ⟨hu, i, z, hi, hz, rfl, rfl, Nat.eq_of_beq_eq_true hb, rfl⟩
        · cases h
      · cases h
    · cases h
  · cases h

def Sl.blk (s : Sl) : Option Nat := s.a.map (·.block)

/-- A slice that has a whole block for itself. -/
structure Own (u : H) (e size : Nat) (s : Sl) (xs : List Value) : Prop where
  len : xs.length = s.n * size
  is : (s = ⟨none, 0, 0⟩) ∨ ∃ g cur, s.a = some ⟨g, 0, none⟩ ∧ u g = some (.cells cur e (0, 0)) ∧ s.n ≤ s.c ∧ s.c ≤ 9223372036854775807 ∧ cur.size = s.c * size ∧ cur.toList.take (s.n * size) = xs

theorem maxLen_eq : maxLen = 9223372036854775807 := by decide

theorem H.cell?_ins (u : H) (g : Nat) (c : Array Value) (e : TypeId) (fz : Nat × Nat) (i : Nat) : (u.ins g (.cells c e fz)).cell? ⟨g, i, none⟩ = c[i]? := by
  simp [H.cell?, H.ins]

theorem H.cell?_of {u : H} {g : Nat} {c : Array Value} {e : TypeId} {fz : Nat × Nat} (h : u g = some (.cells c e fz)) (i : Nat) : u.cell? ⟨g, i, none⟩ = c[i]? := by
  simp [H.cell?, h]

theorem Own.seg {u : H} {e size : Nat} {s : Sl} {xs : List Value} (h : Own u e size s xs) : Seg u s size xs := by
  rcases h.is with h1 | ⟨g, cur, ha, hg, hn, hc, hs, ht⟩
  · subst h1
    refine ⟨h.len, by simp, by simp, .inl ?_⟩
    have := h.len
    simpa using this
  · refine ⟨h.len, hn, hc, .inr ⟨_, ha, fun i v e => ?_⟩⟩
    rw [Addr.add_lit, Nat.zero_add, H.cell?_of hg]
    rw [← ht] at e
    rw [List.getElem?_take] at e
    split at e
    · simpa using e
    · cases e

theorem Own.le {u u' : H} {e size : Nat} {s : Sl} {xs : List Value} (h : Own u e size s xs) (k : ∀ b o, s.blk = some b → u b = some o → u' b = some o) : Own u' e size s xs :=
  ⟨h.len, h.is.imp id fun ⟨g, cur, ha, hg, r⟩ => ⟨g, cur, ha, k g _ (by simp [Sl.blk, ha]) hg, r⟩⟩

theorem Own.nil (u : H) (e size : Nat) : Own u e size ⟨none, 0, 0⟩ [] := ⟨by simp, .inl rfl⟩

/-- How what is known turns where a slice is appended to. -/
structure Grew (u u' : H) (s s' : Sl) : Prop where
  rest : ∀ b o, u b = some o → s.blk ≠ some b → u' b = some o
  blk : s'.blk = s.blk ∨ ∃ g, s'.blk = some g ∧ u g = none

theorem Grew.le {u0 u u' : H} {s s' : Sl} (h : Grew u u' s s') (k : u0.le u) (hs : ∀ g, s.blk = some g → u0 g = none) : u0.le u' := by
  intro b o e
  refine h.rest b o (k b o e) fun hb => ?_
  rw [hs b hb] at e; cases e

theorem Grew.out {u0 u u' : H} {s s' : Sl} (h : Grew u u' s s') (k : u0.le u) (hs : ∀ g, s.blk = some g → u0 g = none) : ∀ g, s'.blk = some g → u0 g = none := by
  intro g hg
  rcases h.blk with e | ⟨g', e, hn⟩
  · exact hs g (by rw [← e]; exact hg)
  · rw [e] at hg; cases hg
    cases hx : u0 g with
    | none => rfl
    | some o => rw [k _ _ hx] at hn; cases hn

theorem step_new {u : H} {w : World} (hw : Sub u w) (o : Obj) : Step u [] w (u.ins w.heap.size o) [] (w.drew.alloc o) ∧ u w.heap.size = none :=
  ⟨(Step.draws hw (Nat.le_succ w.drawn)).trans (Step.newKnown (w := w.drew) hw o), hw.none (Nat.le_refl _)⟩

theorem step_row {u : H} {w : World} (hw : Sub u w) {g : Nat} {cur : Array Value} {e : TypeId} (hg : u g = some (.cells cur e (0, 0))) (cs : Array Value) :
    Step u [] w (u.ins g (.cells cs e (0, 0))) [] (w.setRow g cs) := by
  have hgw := hw _ _ hg
  have hs : (w.setRow g cs).heap.size = w.heap.size := by simp [World.setRow]
  refine ⟨fun b o h => ?_, rfl, rfl, rfl, Nat.le_refl _, by rw [hs]; exact Nat.le_refl _, fun b _ hb _ => ?_, fun b _ hb => ?_, [], by simp, by simp⟩
  · unfold H.ins at h
    split at h
    · rename_i hbg; subst hbg; cases h; exact setRow_heap w b cur cs e (0, 0) hgw
    · rename_i hbg; rw [setRow_other w g b cs hbg]; exact hw b o h
  · have : b ≠ g := fun h => by rw [h, hg] at hb; cases hb
    exact setRow_other w g b cs this
  · have : b ≠ g := fun h => by rw [h, hg] at hb; cases hb
    rw [H.ins_other u _ this]; exact hb

theorem Seg.world {u : H} {w : World} (hw : Sub u w) {s : Sl} {size : Nat} {xs : List Value} (h : Seg u s size xs) {p : Addr} (hp : s.a = some p) : ∀ j v, xs[j]? = some v → w.cell? (p.add j) = some v := by
  intro j v e
  rcases h.at' with h | ⟨q, hq, hc⟩
  · subst h; simp at e
  · rw [hp] at hq; cases hq
    exact hw.cell (hc j v e)

theorem grown_size (z : Array Value) {size need cap : Nat} (hz : z.size = size) (h : need ≤ cap) {xs : List Value} (hx : xs.length = need * size) :
    (xs.toArray ++ Builtin.zeroCells z (cap - need)).size = cap * size := by
  simp only [Array.size_append, List.size_toArray, size_zeroCells, hz, hx, ← Nat.add_mul]
  congr 1
  omega

/-- Where there is no room, or nothing yet: a new block. -/
theorem sem_append_new {P : Program} {t ty e : TypeId} {size bytes : Nat} {zs : List Value} (hT : elemT P t = some (e, size, bytes, zs)) {s x : Sl} {xs ys : List Value} {u : H} {K : Sl → H → Prop}
    (hs : Seg u s size xs) (hx : Seg u x size ys) (hroom : s.c < s.n + x.n) (hsome : s = ⟨none, 0, 0⟩ ∨ s.a ≠ none) (hxs : x.a ≠ none) (hm : s.n + x.n ≤ 9223372036854775807) (hb : (s.n + x.n) * bytes ≤ 140737488355328)
    (hK : ∀ g c cur, u g = none → Own (u.ins g (.cells cur e (0, 0))) e size ⟨some ⟨g, 0, none⟩, s.n + x.n, c⟩ (xs ++ ys) → K ⟨some ⟨g, 0, none⟩, s.n + x.n, c⟩ (u.ins g (.cells cur e (0, 0)))) :
    SemT P (Builtin.append_ #[t, t] ty #[.slice s.a s.n s.c, .slice x.a x.n x.c]) [.one .slice] u K := by
  obtain ⟨ht, i, z, hi, hz, hsize, hby, hzs, _⟩ := elemT_spec hT
  subst hsize
  subst hby
  refine .one (c := .slice) fun w hw => ?_
  obtain ⟨q, hq⟩ := Option.ne_none_iff_exists'.1 hxs
  have hnews := hx.world hw hq
  have hlen : (xs ++ ys).length = (s.n + x.n) * i.size := by rw [List.length_append, hs.len, hx.len, Nat.add_mul]
  have fin : ∀ old (o : Array Value), (Builtin.append_ #[t, t] ty #[.slice s.a s.n s.c, .slice x.a x.n x.c]).run P w = .ok (.slice (some ⟨w.heap.size, 0, none⟩) (s.n + x.n) (grownCap w (s.n + x.n) old e)) (w.drew.alloc (.cells o e)) →
      o = ((xs ++ ys).toArray ++ Builtin.zeroCells z.cells (grownCap w (s.n + x.n) old e - (s.n + x.n))) →
      ∃ x_1 w' u', (Builtin.append_ #[t, t] ty #[.slice s.a s.n s.c, .slice x.a x.n x.c]).run P w = .ok (CT.slice.enc x_1) w' ∧ K x_1 u' ∧ Step u [] w u' [] w' := by
    intro old o hr ho
    have hge := grownCap_ge w (s.n + x.n) old e
    have hcm := grownCap_le_maxLen w (s.n + x.n) old e (by rw [maxLen_eq]; exact hm)
    rw [maxLen_eq] at hcm
    have hst := step_new hw (.cells o e)
    refine ⟨⟨some ⟨w.heap.size, 0, none⟩, s.n + x.n, grownCap w (s.n + x.n) old e⟩, _, _, hr, hK _ _ _ hst.2 ⟨hlen, .inr ⟨w.heap.size, o, rfl, H.ins_same _ _ _, hge, hcm, ?_, ?_⟩⟩, hst.1⟩
    · rw [ho]; exact grown_size z.cells hzs hge hlen
    · rw [ho]
      simp only [Array.toList_append]
      rw [← hlen]
      exact List.take_left
  rcases hsome with h0 | h0
  · subst h0
    have hxs0 : xs = [] := by simpa using hs.len
    subst hxs0
    simp only [Nat.zero_add] at *
    have hr := run_append_nil (P := P) w t ty e i z ht hi hz q x.n x.c ys hx.len hnews (by omega) (by omega) (by omega)
    rw [hq]
    rw [hq] at fin
    exact fin 0 _ hr (by simp)
  · obtain ⟨p, hp⟩ := Option.ne_none_iff_exists'.1 h0
    have hr := run_append_grow (P := P) w t ty e i z ht hi hz p s.n s.c xs hs.len (hs.world hw hp) q x.n x.c ys hx.len hnews hroom (by omega) (growslice_fits hroom hb)
    rw [hp, hq]
    rw [hp, hq] at fin
    exact fin s.c _ hr (by simp)

theorem sem_append {P : Program} {t ty e : TypeId} {size bytes : Nat} {zs : List Value} (hT : elemT P t = some (e, size, bytes, zs)) (hsz : 0 < size) {s x : Sl} {xs ys : List Value} {u : H} {K : Sl → H → Prop}
    (ho : Own u e size s xs) (hx : Seg u x size ys) (h1 : ∀ y ∈ ys, y.oneCell' = true) (hm : s.n + x.n ≤ 9223372036854775807) (hb : (s.n + x.n) * bytes ≤ 140737488355328)
    (hK : ∀ s' u', Own u' e size s' (xs ++ ys) → s'.n = s.n + x.n → Grew u u' s s' → (s' = ⟨none, 0, 0⟩ ↔ s = ⟨none, 0, 0⟩ ∧ x.n = 0) → K s' u') :
    SemT P (Builtin.append_ #[t, t] ty #[.slice s.a s.n s.c, .slice x.a x.n x.c]) [.one .slice] u K := by
  obtain ⟨ht, i, z, hi, hz, hsize, hby, hzs, _⟩ := elemT_spec hT
  have hncap : s.n ≤ s.c := ho.seg.cap
  by_cases hx0 : x.n = 0
  · have hys : ys = [] := by simpa [hx0] using hx.len
    subst hys
    refine .one' (c := .slice) s (fun w hw => ?_) (hK s u (by simpa using ho) (by omega) ⟨fun _ _ h _ => h, .inl rfl⟩ (by simp [hx0]))
    have hl : ∀ (y : Addr), (loadCells y 0).run P w = .ok #[] w := fun y => by simpa using run_loadCells_list (P := P) w y [] (by simp)
    rw [hx0]
    cases hsa : s.a <;> cases hxa : x.a <;> simp [Builtin.append_, run_underlying ht, sizeOf, typeInfo, hi, Builtin.lenOf, Builtin.firstCells, hncap, CT.enc, hsa, hl, storeCells]
  · have hxs : x.a ≠ none := by
      intro h
      rcases hx.at' with h' | ⟨p, hp, _⟩
      · have := hx.len
        rw [h'] at this
        simp only [List.length_nil] at this
        rcases Nat.mul_eq_zero.1 this.symm with h | h <;> omega
      · rw [h] at hp; cases hp
    by_cases hroom : s.n + x.n ≤ s.c
    · rcases ho.is with h0 | ⟨g, cur, ha, hg, hn, hc, hs, htk⟩
      · exfalso; subst h0; simp only [Nat.zero_add] at hroom; omega
      · obtain ⟨q, hq⟩ := Option.ne_none_iff_exists'.1 hxs
        refine .one (c := .slice) fun w hw => ?_
        have hfit : s.n * i.size + ys.length ≤ cur.size := by rw [hx.len, hs, hsize, ← Nat.add_mul]; exact Nat.mul_le_mul_right _ hroom
        have hr := run_append_room (P := P) w t ty e i ht hi g s.n s.c cur (hw _ _ hg) q x.n x.c ys (by rw [hsize]; exact hx.len) (hx.world hw hq) h1 hroom hfit
        rw [ha, hq, hr]
        refine ⟨⟨some ⟨g, 0, none⟩, s.n + x.n, s.c⟩, _, _, rfl, hK _ _ ⟨by rw [List.length_append, ho.len, hx.len, Nat.add_mul], .inr ⟨g, _, rfl, H.ins_same _ _ _, hroom, hc, ?_, ?_⟩⟩ rfl
          ⟨fun b o e hb => ?_, .inl (by simp [Sl.blk, ha])⟩ ⟨fun h => by simp at h, fun h => absurd h.2 hx0⟩, step_row hw hg _⟩
        · simp only [List.size_toArray, List.length_append, List.length_take, List.length_drop, Array.length_toList]
          omega
        · rw [hsize, htk]
          have : (xs ++ ys).length = (s.n + x.n) * size := by rw [List.length_append, ho.len, hx.len, Nat.add_mul]
          simp only [← this]
          exact List.take_left
        · rw [H.ins_other u _ (fun h => hb (by simp [Sl.blk, ha, h]))]; exact e
    · have hsome : s = ⟨none, 0, 0⟩ ∨ s.a ≠ none := by
        rcases ho.is with h | ⟨g, cur, ha, _⟩
        · exact .inl h
        · exact .inr (by rw [ha]; simp)
      refine sem_append_new hT ho.seg hx (by omega) hsome hxs hm hb fun g c cur hg hown => hK _ _ hown rfl ⟨fun b o e _ => ?_, .inr ⟨g, rfl, hg⟩⟩ ⟨fun h => by simp at h, fun h => absurd h.2 hx0⟩
      rw [H.ins_other u _ (fun h => by rw [h, hg] at e; cases e)]
      exact e

/-! ### slices that are made -/

/-- The cells of a slice literal, with its element's type. -/
def buildOf (P : Program) (t n : Nat) (ps : Array (Nat × Value)) : Option (TypeId × List Value) :=
  match elemT P t with
  | some (e, size, _, zs) => match Nat.ble (n * size) 16777216, Nat.ble 1 size,
      Instr.fill (fun i => some (i * size, size)) ((Array.range (n * size)).map (zs.toArray[· % zs.toArray.size]!)) ps.toList with
    | true, true, some cells => some (e, cells.toList)
    | _, _, _ => none
  | none => none

theorem sem_build {P : Program} {t n e : Nat} {ps : Array (Nat × Value)} {cells : List Value} (h : buildOf P t n ps = some (e, cells)) {u : H} {K : Sl → H → Prop}
    (hK : ∀ g, u g = none → K ⟨some ⟨g, 0, none⟩, n, n⟩ (u.ins g (.cells cells.toArray e (0, 0)))) : SemT P (Instr.buildSlice t n ps) [.one .slice] u K := by
  unfold buildOf at h
  split at h
  · rename_i e' size bytes zs hT
    obtain ⟨ht, i, z, hi, hz, hsize, hby, hzs, hzl⟩ := elemT_spec hT
    subst hsize
    split at h
    · rename_i cs hle hpos hf
      cases h
      have hle := Nat.le_of_ble_eq_true hle
      have hpos := Nat.le_of_ble_eq_true hpos
      refine .one (c := .slice) fun w hw => ?_
      refine ⟨⟨some ⟨w.heap.size, 0, none⟩, n, n⟩, w.alloc (.cells cs e (0, 0)), _, ?_, hK w.heap.size (hw.none (Nat.le_refl _)), by simpa using Step.newKnown hw (.cells cs e (0, 0))⟩
      have hzt : zs.toArray = z.cells := by rw [← hzl]
      rw [hzt] at hf
      have hn : ¬ (16777216 < n * i.size) := by omega
      by_cases hn0 : n = 0
      · subst hn0
        simp only [Nat.zero_mul, Array.range_zero', Array.map_empty] at hf
        simp [Instr.buildSlice, run_underlying ht, sizeOf, typeInfo, hi, Array.range_zero', hf, newRow, CT.enc]
      · have hp : ¬ (n * i.size = 0) := by
          intro h
          rcases Nat.mul_eq_zero.1 h with h | h <;> omega
        simp [Instr.buildSlice, run_underlying ht, sizeOf, typeInfo, hi, hn, hp, zeroValue, hz, hf, newRow, CT.enc]
    · cases h
  · cases h

/-- makeSlice: so many zeros. -/
theorem sem_make {P : Program} {t e : TypeId} {size bytes : Nat} {zs : List Value} (hT : elemT P t = some (e, size, bytes, zs)) {l c : Int} (h0 : 0 ≤ l) (hlc : l ≤ c) (hb : (bytes : Int) * c ≤ 281474976710656) (h63 : c ≤ 9223372036854775807)
    {u : H} {K : Sl → H → Prop}
    (hK : ∀ g, u g = none → K ⟨some ⟨g, 0, none⟩, l.toNat, c.toNat⟩ (u.ins g (.cells (madeCells zs.toArray (c.toNat * size)) e (0, 0)))) :
    SemT P (Instr.makeSlice t (.int .i64 l) (.int .i64 c)) [.one .slice] u K := by
  obtain ⟨ht, i, z, hi, hz, hsize, hby, hzs, hzl⟩ := elemT_spec hT
  refine .one (c := .slice) fun w hw => ?_
  have hr := run_make (P := P) w t e i z ht hi hz .i64 .i64 l c h0 hlc (by rw [hby]; exact hb) h63
  have hzt : zs.toArray = z.cells := by rw [← hzl]
  rw [hsize, ← hzt] at hr
  exact ⟨⟨some ⟨w.heap.size, 0, none⟩, l.toNat, c.toNat⟩, _, _, hr, hK _ (hw.none (Nat.le_refl _)), Step.newKnown hw _⟩

/-! ### parts of slices -/

theorem runSize {P : Program} {t e : TypeId} {size bytes : Nat} {zs : List Value} (hT : elemT P t = some (e, size, bytes, zs)) (w : World) : P.underlying t = some (.slice (P.elem t)) ∧ (sizeOf (P.elem t)).run P w = .ok size w := by
  obtain ⟨ht, i, z, hi, hz, hsize, hby, hzs, hzl⟩ := elemT_spec hT
  have he : P.elem t = e := by simp [Program.elem, ht]
  rw [he]
  exact ⟨ht, by simp [sizeOf, typeInfo, hi, hsize]⟩

/-- A part of a slice, as a slice. -/
def Sl.part (s : Sl) (l h m size : Nat) : Sl := ⟨if m = l then s.a else s.a.map (·.add (l * size)), h - l, m - l⟩

theorem sem_slice {P : Program} {t e : TypeId} {size bytes : Nat} {zs : List Value} (hT : elemT P t = some (e, size, bytes, zs)) {s : Sl} {lo hi mx : Option Value} {l h m : Nat} {u : H} {K : Sl → H → Prop}
    (hlo : lo = none ∧ l = 0 ∨ lo = some (.int .i64 l)) (hhi : hi = none ∧ h = s.n ∨ hi = some (.int .i64 h)) (hmx : mx = none ∧ m = s.c ∨ mx = some (.int .i64 m) ∧ hi ≠ none)
    (h1 : l ≤ h) (h2 : h ≤ m) (h3 : m ≤ s.c) (h4 : s.n ≤ s.c) (hK : K (s.part l h m size) u) :
    SemT P (Instr.sliceAt t (.slice s.a s.n s.c) lo hi mx) [.one .slice] u K := by
  refine .one' (c := .slice) (s.part l h m size) (fun w _ => ?_) hK
  obtain ⟨ht, hs⟩ := runSize hT w
  rw [run_sliceAt_slice (w := w) (h := ht)]
  rcases hlo with ⟨rfl, rfl⟩ | rfl <;> rcases hhi with ⟨rfl, rfl⟩ | rfl <;> rcases hmx with ⟨rfl, rfl⟩ | ⟨rfl, hm⟩
  · rw [run_slice_all (w := w) (ht := ht), hs]; rfl
  · exact absurd rfl hm
  · rw [run_slice_h (w := w) (ht := ht) (h0 := by omega) (h2 := by omega), hs]; simp [Result.andThen, sliced, Sl.part, CT.enc]
  · rw [run_slice_hm (w := w) (ht := ht) (h0 := by omega) (h2 := by omega) (h3 := by omega), hs]; simp [Result.andThen, sliced, Sl.part, CT.enc]
  · rw [run_slice_l (w := w) (ht := ht) (h0 := by omega) (h1 := by omega), hs]; simp [Result.andThen, sliced, Sl.part, CT.enc]
  · exact absurd rfl hm
  · rw [run_slice_lh (w := w) (ht := ht) (h0 := by omega) (h1 := by omega) (h2 := by omega), hs]; simp [Result.andThen, sliced, Sl.part, CT.enc]
  · rw [run_slice_lhm (w := w) (ht := ht) (h0 := by omega) (h1 := by omega) (h2 := by omega) (h3 := by omega), hs]; simp [Result.andThen, sliced, Sl.part, CT.enc]

theorem Addr.add_add' (a : Addr) (i j : Nat) : (a.add i).add j = a.add (i + j) := Addr.add_add a i j

/-- What a part of a slice reads. -/
theorem Seg.part {u : H} {s : Sl} {size : Nat} {xs : List Value} (hs : Seg u s size xs) {l h m : Nat} (h1 : l ≤ h) (h2 : h ≤ s.n) (h3 : h ≤ m) (h4 : m ≤ s.c) :
    Seg u (s.part l h m size) size ((xs.drop (l * size)).take ((h - l) * size)) := by
  have hl := hs.len
  have hle : h * size ≤ s.n * size := Nat.mul_le_mul_right _ h2
  have hll : l * size ≤ h * size := Nat.mul_le_mul_right _ h1
  have hsub : (h - l) * size = h * size - l * size := Nat.sub_mul _ _ _
  refine ⟨?_, ?_, ?_, ?_⟩
  · simp only [List.length_take, List.length_drop, Sl.part]; omega
  · simp only [Sl.part]; omega
  · simp only [Sl.part]; have := hs.max; omega
  · rcases hs.at' with h0 | ⟨p, hp, hc⟩
    · subst h0; exact .inl (by simp)
    · by_cases hml : m = l
      · refine .inl ?_
        have : h = l := by omega
        simp [this]
      · refine .inr ⟨p.add (l * size), by simp [Sl.part, hml, hp], fun i v e => ?_⟩
        rw [Addr.add_add']
        refine hc _ _ ?_
        rw [List.getElem?_take] at e
        split at e
        · simpa [List.getElem?_drop] using e
        · cases e

end Go.Proofs.YtgfafpiinencpaaGreat
