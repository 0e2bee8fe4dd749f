/- Texts of mine, joined by merge.py: VcSem, VcMem. -/
import Derived.Test.YtbohcdjoglidhaaGreatDoorMra2
import Derived.Laws.AppendOwn
import Derived.Laws.MakeOwn
import Derived.Laws.Slices
import Derived.Laws.CopyRow
import Derived.MapKept
import Derived.ChangeMaps5
import Derived.Carry
set_option maxRecDepth 100000

/- VcSem -/
namespace Go.Proofs.YtbohcdjoglidhaaGreatDoor

theorem Step.newKnown {u : H} {w : World} (hw : Sub u w) (o : Obj) : Step u [] w (u.ins w.heap.size o) [] (w.alloc o) :=
  (Fits.newKnown (s := { n := 0, env := [], loc := [] }) (a := { tmps := #[], defers := [] }) (bs := []) (w := w) ⟨⟨rfl, rfl, fun _ h => by cases h⟩, rfl, fun _ _ h => by simp at h, by simp, by simp, hw⟩ o).2

/-- One answer of one kind. -/
theorem SemT.one {P : Program} {m : Sem Value} {c : CT} {u : H} {K : c.den → H → Prop}
    (h : ∀ w, Sub u w → ∃ x w' u', m.run P w = .ok (c.enc x) w' ∧ K x u' ∧ Step u [] w u' [] w') : SemT P m [.one c] u K := by
  intro w hw
  obtain ⟨x, w', u', h1, h2, h3⟩ := h w hw
  exact ⟨_, w', u', h1, ⟨[c.enc x], .cons x .nil, rfl, (CT.un_enc c x _).2 h2⟩, h3⟩

/-- An answer that leaves the world alone, of one kind. -/
theorem SemT.one' {P : Program} {m : Sem Value} {c : CT} {u : H} {K : c.den → H → Prop} (x : c.den) (h : ∀ w, Sub u w → m.run P w = .ok (c.enc x) w) (hK : K x u) : SemT P m [.one c] u K :=
  .one fun w hw => ⟨x, w, u, h w hw, hK, Step.refl hw⟩

/-- A slice type's element: its type, cells, bytes, zero. -/
def elemT (P : Program) (t : TypeId) : Option (TypeId × Nat × Nat × List Value) :=
  match P.underlying t with
  | some (.slice e) => match P.info? e with
    | some i => match i.zero with
      | some z => match Nat.beq z.cells.size i.size with
        | true => some (e, i.size, i.bytes, z.cells.toList)
        | false => none
      | none => none
    | none => none
  | _ => none

theorem elemT_spec {P : Program} {t e : TypeId} {size bytes : Nat} {zs : List Value} (h : elemT P t = some (e, size, bytes, zs)) :
    P.underlying t = some (.slice e) ∧ ∃ i z, P.info? e = some i ∧ i.zero = some z ∧ i.size = size ∧ i.bytes = bytes ∧ z.cells.size = size ∧ z.cells.toList = zs := by
  unfold elemT at h
  split at h
  · rename_i e' hu
    split at h
    · rename_i i hi
      split at h
      · rename_i z hz
        split at h
        · rename_i hb
          cases h
          exact ⟨hu, i, z, hi, hz, rfl, rfl, Nat.eq_of_beq_eq_true hb, rfl⟩
        · cases h
      · cases h
    · cases h
  · cases h

def Sl.blk (s : Sl) : Option Nat := s.a.map (·.block)

/-- A slice that has a whole block for itself. -/
structure Own (u : H) (e size : Nat) (s : Sl) (xs : List Value) : Prop where
  len : xs.length = s.n * size
  is : (s = ⟨none, 0, 0⟩) ∨ ∃ g cur, s.a = some ⟨g, 0, none⟩ ∧ u g = some (.cells cur e (0, 0)) ∧ s.n ≤ s.c ∧ s.c ≤ 9223372036854775807 ∧ cur.size = s.c * size ∧ cur.toList.take (s.n * size) = xs

theorem maxLen_eq : maxLen = 9223372036854775807 := by decide

theorem H.cell?_of {u : H} {g : Nat} {c : Array Value} {e : TypeId} {fz : Nat × Nat} (h : u g = some (.cells c e fz)) (i : Nat) : u.cell? ⟨g, i, none⟩ = c[i]? := by
  simp [H.cell?, h]

theorem Own.seg {u : H} {e size : Nat} {s : Sl} {xs : List Value} (h : Own u e size s xs) : Seg u s size xs := by
  rcases h.is with h1 | ⟨g, cur, ha, hg, hn, hc, hs, ht⟩
  · subst h1
    refine ⟨h.len, by simp, by simp, .inl ?_⟩
    have := h.len
    simpa using this
  · refine ⟨h.len, hn, hc, .inr ⟨_, ha, fun i v e => ?_⟩⟩
    rw [Addr.add_lit, Nat.zero_add, H.cell?_of hg]
    rw [← ht] at e
    rw [List.getElem?_take] at e
    split at e
    · simpa using e
    · cases e

theorem Own.le {u u' : H} {e size : Nat} {s : Sl} {xs : List Value} (h : Own u e size s xs) (k : ∀ b o, s.blk = some b → u b = some o → u' b = some o) : Own u' e size s xs :=
  ⟨h.len, h.is.imp id fun ⟨g, cur, ha, hg, r⟩ => ⟨g, cur, ha, k g _ (by simp [Sl.blk, ha]) hg, r⟩⟩

theorem Own.nil (u : H) (e size : Nat) : Own u e size ⟨none, 0, 0⟩ [] := ⟨by simp, .inl rfl⟩

/-- How what is known turns where a slice is appended to. -/
structure Grew (u u' : H) (s s' : Sl) : Prop where
  rest : ∀ b o, u b = some o → s.blk ≠ some b → u' b = some o
  blk : s'.blk = s.blk ∨ ∃ g, s'.blk = some g ∧ u g = none

theorem Grew.le {u0 u u' : H} {s s' : Sl} (h : Grew u u' s s') (k : u0.le u) (hs : ∀ g, s.blk = some g → u0 g = none) : u0.le u' := by
  intro b o e
  refine h.rest b o (k b o e) fun hb => ?_
  rw [hs b hb] at e; cases e

theorem Grew.out {u0 u u' : H} {s s' : Sl} (h : Grew u u' s s') (k : u0.le u) (hs : ∀ g, s.blk = some g → u0 g = none) : ∀ g, s'.blk = some g → u0 g = none := by
  intro g hg
  rcases h.blk with e | ⟨g', e, hn⟩
  · exact hs g (by rw [← e]; exact hg)
  · rw [e] at hg; cases hg
    cases hx : u0 g with
    | none => rfl
    | some o => rw [k _ _ hx] at hn; cases hn

theorem step_new {u : H} {w : World} (hw : Sub u w) (o : Obj) : Step u [] w (u.ins w.heap.size o) [] (w.drew.alloc o) ∧ u w.heap.size = none :=
  ⟨(Step.draws hw (Nat.le_succ w.drawn)).trans (Step.newKnown (w := w.drew) hw o), hw.none (Nat.le_refl _)⟩

theorem step_row {u : H} {w : World} (hw : Sub u w) {g : Nat} {cur : Array Value} {e : TypeId} (hg : u g = some (.cells cur e (0, 0))) (cs : Array Value) :
    Step u [] w (u.ins g (.cells cs e (0, 0))) [] (w.setRow g cs) := by
  have hgw := hw _ _ hg
  have hs : (w.setRow g cs).heap.size = w.heap.size := by simp [World.setRow]
  refine ⟨fun b o h => ?_, rfl, rfl, rfl, Nat.le_refl _, by rw [hs]; exact Nat.le_refl _, fun b _ hb _ => ?_, fun b _ hb => ?_, [], by simp, by simp⟩
  · unfold H.ins at h
    split at h
    · rename_i hbg; subst hbg; cases h; exact setRow_heap w b cur cs e (0, 0) hgw
    · rename_i hbg; rw [setRow_other w g b cs hbg]; exact hw b o h
  · have : b ≠ g := fun h => by rw [h, hg] at hb; cases hb
    exact setRow_other w g b cs this
  · have : b ≠ g := fun h => by rw [h, hg] at hb; cases hb
    rw [H.ins_other u _ this]; exact hb

theorem Seg.world {u : H} {w : World} (hw : Sub u w) {s : Sl} {size : Nat} {xs : List Value} (h : Seg u s size xs) {p : Addr} (hp : s.a = some p) : ∀ j v, xs[j]? = some v → w.cell? (p.add j) = some v := by
  intro j v e
  rcases h.at' with h | ⟨q, hq, hc⟩
  · subst h; simp at e
  · rw [hp] at hq; cases hq
    exact hw.cell (hc j v e)

theorem grown_size (z : Array Value) {size need cap : Nat} (hz : z.size = size) (h : need ≤ cap) {xs : List Value} (hx : xs.length = need * size) :
    (xs.toArray ++ Builtin.zeroCells z (cap - need)).size = cap * size := by
  simp only [Array.size_append, List.size_toArray, size_zeroCells, hz, hx, ← Nat.add_mul]
  congr 1
  omega

/-- Where there is no room, or nothing yet: a new block. -/
theorem sem_append_new {P : Program} {t ty e : TypeId} {size bytes : Nat} {zs : List Value} (hT : elemT P t = some (e, size, bytes, zs)) {s x : Sl} {xs ys : List Value} {u : H} {K : Sl → H → Prop}
    (hs : Seg u s size xs) (hx : Seg u x size ys) (hroom : s.c < s.n + x.n) (hsome : s = ⟨none, 0, 0⟩ ∨ s.a ≠ none) (hxs : x.a ≠ none) (hm : s.n + x.n ≤ 9223372036854775807) (hb : (s.n + x.n) * bytes ≤ 140737488355328)
    (hK : ∀ g c cur, u g = none → Own (u.ins g (.cells cur e (0, 0))) e size ⟨some ⟨g, 0, none⟩, s.n + x.n, c⟩ (xs ++ ys) → K ⟨some ⟨g, 0, none⟩, s.n + x.n, c⟩ (u.ins g (.cells cur e (0, 0)))) :
    SemT P (Builtin.append_ #[t, t] ty #[.slice s.a s.n s.c, .slice x.a x.n x.c]) [.one .slice] u K := by
  obtain ⟨ht, i, z, hi, hz, hsize, hby, hzs, _⟩ := elemT_spec hT
  subst hsize
  subst hby
  refine .one (c := .slice) fun w hw => ?_
  obtain ⟨q, hq⟩ := Option.ne_none_iff_exists'.1 hxs
  have hnews := hx.world hw hq
  have hlen : (xs ++ ys).length = (s.n + x.n) * i.size := by rw [List.length_append, hs.len, hx.len, Nat.add_mul]
  have fin : ∀ old (o : Array Value), (Builtin.append_ #[t, t] ty #[.slice s.a s.n s.c, .slice x.a x.n x.c]).run P w = .ok (.slice (some ⟨w.heap.size, 0, none⟩) (s.n + x.n) (grownCap w (s.n + x.n) old e)) (w.drew.alloc (.cells o e)) →
      o = ((xs ++ ys).toArray ++ Builtin.zeroCells z.cells (grownCap w (s.n + x.n) old e - (s.n + x.n))) →
      ∃ x_1 w' u', (Builtin.append_ #[t, t] ty #[.slice s.a s.n s.c, .slice x.a x.n x.c]).run P w = .ok (CT.slice.enc x_1) w' ∧ K x_1 u' ∧ Step u [] w u' [] w' := by
    intro old o hr ho
    have hge := grownCap_ge w (s.n + x.n) old e
    have hcm := grownCap_le_maxLen w (s.n + x.n) old e (by rw [maxLen_eq]; exact hm)
    rw [maxLen_eq] at hcm
    have hst := step_new hw (.cells o e)
    refine ⟨⟨some ⟨w.heap.size, 0, none⟩, s.n + x.n, grownCap w (s.n + x.n) old e⟩, _, _, hr, hK _ _ _ hst.2 ⟨hlen, .inr ⟨w.heap.size, o, rfl, H.ins_same _ _ _, hge, hcm, ?_, ?_⟩⟩, hst.1⟩
    · rw [ho]; exact grown_size z.cells hzs hge hlen
    · rw [ho]
      simp only [Array.toList_append]
      rw [← hlen]
      exact List.take_left
  rcases hsome with h0 | h0
  · subst h0
    have hxs0 : xs = [] := by simpa using hs.len
    subst hxs0
    simp only [Nat.zero_add] at *
    have hr := run_append_nil (P := P) w t ty e i z ht hi hz q x.n x.c ys hx.len hnews (by omega) (by omega) (by omega)
    rw [hq]
    rw [hq] at fin
    exact fin 0 _ hr (by simp)
  · obtain ⟨p, hp⟩ := Option.ne_none_iff_exists'.1 h0
    have hr := run_append_grow (P := P) w t ty e i z ht hi hz p s.n s.c xs hs.len (hs.world hw hp) q x.n x.c ys hx.len hnews hroom (by omega) (growslice_fits hroom hb)
    rw [hp, hq]
    rw [hp, hq] at fin
    exact fin s.c _ hr (by simp)

theorem sem_append {P : Program} {t ty e : TypeId} {size bytes : Nat} {zs : List Value} (hT : elemT P t = some (e, size, bytes, zs)) (hsz : 0 < size) {s x : Sl} {xs ys : List Value} {u : H} {K : Sl → H → Prop}
    (ho : Own u e size s xs) (hx : Seg u x size ys) (h1 : ∀ y ∈ ys, y.oneCell' = true) (hm : s.n + x.n ≤ 9223372036854775807) (hb : (s.n + x.n) * bytes ≤ 140737488355328)
    (hK : ∀ s' u', Own u' e size s' (xs ++ ys) → s'.n = s.n + x.n → Grew u u' s s' → (s' = ⟨none, 0, 0⟩ ↔ s = ⟨none, 0, 0⟩ ∧ x.n = 0) → K s' u') :
    SemT P (Builtin.append_ #[t, t] ty #[.slice s.a s.n s.c, .slice x.a x.n x.c]) [.one .slice] u K := by
  obtain ⟨ht, i, z, hi, hz, hsize, hby, hzs, _⟩ := elemT_spec hT
  have hncap : s.n ≤ s.c := ho.seg.cap
  by_cases hx0 : x.n = 0
  · have hys : ys = [] := by simpa [hx0] using hx.len
    subst hys
    refine .one' (c := .slice) s (fun w hw => ?_) (hK s u (by simpa using ho) (by omega) ⟨fun _ _ h _ => h, .inl rfl⟩ (by simp [hx0]))
    have hl : ∀ (y : Addr), (loadCells y 0).run P w = .ok #[] w := fun y => by simpa using run_loadCells_list (P := P) w y [] (by simp)
    rw [hx0]
    cases hsa : s.a <;> cases hxa : x.a <;> simp [Builtin.append_, run_underlying ht, sizeOf, typeInfo, hi, Builtin.lenOf, Builtin.firstCells, hncap, CT.enc, hsa, hl, storeCells]
  · have hxs : x.a ≠ none := by
      intro h
      rcases hx.at' with h' | ⟨p, hp, _⟩
      · have := hx.len
        rw [h'] at this
        simp only [List.length_nil] at this
        rcases Nat.mul_eq_zero.1 this.symm with h | h <;> omega
      · rw [h] at hp; cases hp
    by_cases hroom : s.n + x.n ≤ s.c
    · rcases ho.is with h0 | ⟨g, cur, ha, hg, hn, hc, hs, htk⟩
      · exfalso; subst h0; simp only [Nat.zero_add] at hroom; omega
      · obtain ⟨q, hq⟩ := Option.ne_none_iff_exists'.1 hxs
        refine .one (c := .slice) fun w hw => ?_
        have hfit : s.n * i.size + ys.length ≤ cur.size := by rw [hx.len, hs, hsize, ← Nat.add_mul]; exact Nat.mul_le_mul_right _ hroom
        have hr := run_append_room (P := P) w t ty e i ht hi g s.n s.c cur (hw _ _ hg) q x.n x.c ys (by rw [hsize]; exact hx.len) (hx.world hw hq) h1 hroom hfit
        rw [ha, hq, hr]
        refine ⟨⟨some ⟨g, 0, none⟩, s.n + x.n, s.c⟩, _, _, rfl, hK _ _ ⟨by rw [List.length_append, ho.len, hx.len, Nat.add_mul], .inr ⟨g, _, rfl, H.ins_same _ _ _, hroom, hc, ?_, ?_⟩⟩ rfl
          ⟨fun b o e hb => ?_, .inl (by simp [Sl.blk, ha])⟩ ⟨fun h => by simp at h, fun h => absurd h.2 hx0⟩, step_row hw hg _⟩
        · simp only [List.size_toArray, List.length_append, List.length_take, List.length_drop, Array.length_toList]
          omega
        · rw [hsize, htk]
          have : (xs ++ ys).length = (s.n + x.n) * size := by rw [List.length_append, ho.len, hx.len, Nat.add_mul]
          simp only [← this]
          exact List.take_left
        · rw [H.ins_other u _ (fun h => hb (by simp [Sl.blk, ha, h]))]; exact e
    · have hsome : s = ⟨none, 0, 0⟩ ∨ s.a ≠ none := by
        rcases ho.is with h | ⟨g, cur, ha, _⟩
        · exact .inl h
        · exact .inr (by rw [ha]; simp)
      refine sem_append_new hT ho.seg hx (by omega) hsome hxs hm hb fun g c cur hg hown => hK _ _ hown rfl ⟨fun b o e _ => ?_, .inr ⟨g, rfl, hg⟩⟩ ⟨fun h => by simp at h, fun h => absurd h.2 hx0⟩
      rw [H.ins_other u _ (fun h => by rw [h, hg] at e; cases e)]
      exact e

/-! ### slices that are made -/

/-- The cells of a slice literal, with its element's type. -/
def buildOf (P : Program) (t n : Nat) (ps : Array (Nat × Value)) : Option (TypeId × List Value) :=
  match elemT P t with
  | some (e, size, _, zs) => match Nat.ble (n * size) 16777216, Nat.ble 1 size,
      Instr.fill (fun i => some (i * size, size)) ((Array.range (n * size)).map (zs.toArray[· % zs.toArray.size]!)) ps.toList with
    | true, true, some cells => some (e, cells.toList)
    | _, _, _ => none
  | none => none

theorem sem_build {P : Program} {t n e : Nat} {ps : Array (Nat × Value)} {cells : List Value} (h : buildOf P t n ps = some (e, cells)) {u : H} {K : Sl → H → Prop}
    (hK : ∀ g, u g = none → K ⟨some ⟨g, 0, none⟩, n, n⟩ (u.ins g (.cells cells.toArray e (0, 0)))) : SemT P (Instr.buildSlice t n ps) [.one .slice] u K := by
  unfold buildOf at h
  split at h
  · rename_i e' size bytes zs hT
    obtain ⟨ht, i, z, hi, hz, hsize, hby, hzs, hzl⟩ := elemT_spec hT
    subst hsize
    split at h
    · rename_i cs hle hpos hf
      cases h
      have hle := Nat.le_of_ble_eq_true hle
      have hpos := Nat.le_of_ble_eq_true hpos
      refine .one (c := .slice) fun w hw => ?_
      refine ⟨⟨some ⟨w.heap.size, 0, none⟩, n, n⟩, w.alloc (.cells cs e (0, 0)), _, ?_, hK w.heap.size (hw.none (Nat.le_refl _)), by simpa using Step.newKnown hw (.cells cs e (0, 0))⟩
      have hzt : zs.toArray = z.cells := by rw [← hzl]
      rw [hzt] at hf
      have hn : ¬ (16777216 < n * i.size) := by omega
      by_cases hn0 : n = 0
      · subst hn0
        simp only [Nat.zero_mul, Array.range_zero', Array.map_empty] at hf
        simp [Instr.buildSlice, run_underlying ht, sizeOf, typeInfo, hi, Array.range_zero', hf, newRow, CT.enc]
      · have hp : ¬ (n * i.size = 0) := by
          intro h
          rcases Nat.mul_eq_zero.1 h with h | h <;> omega
        simp [Instr.buildSlice, run_underlying ht, sizeOf, typeInfo, hi, hn, hp, zeroValue, hz, hf, newRow, CT.enc]
    · cases h
  · cases h

/-- makeSlice: so many zeros. -/
theorem sem_make {P : Program} {t e : TypeId} {size bytes : Nat} {zs : List Value} (hT : elemT P t = some (e, size, bytes, zs)) {l c : Int} (h0 : 0 ≤ l) (hlc : l ≤ c) (hb : (bytes : Int) * c ≤ 281474976710656) (h63 : c ≤ 9223372036854775807)
    {u : H} {K : Sl → H → Prop}
    (hK : ∀ g, u g = none → K ⟨some ⟨g, 0, none⟩, l.toNat, c.toNat⟩ (u.ins g (.cells (madeCells zs.toArray (c.toNat * size)) e (0, 0)))) :
    SemT P (Instr.makeSlice t (.int .i64 l) (.int .i64 c)) [.one .slice] u K := by
  obtain ⟨ht, i, z, hi, hz, hsize, hby, hzs, hzl⟩ := elemT_spec hT
  refine .one (c := .slice) fun w hw => ?_
  have hr := run_make (P := P) w t e i z ht hi hz .i64 .i64 l c h0 hlc (by rw [hby]; exact hb) h63
  have hzt : zs.toArray = z.cells := by rw [← hzl]
  rw [hsize, ← hzt] at hr
  exact ⟨⟨some ⟨w.heap.size, 0, none⟩, l.toNat, c.toNat⟩, _, _, hr, hK _ (hw.none (Nat.le_refl _)), Step.newKnown hw _⟩

/-! ### parts of slices -/

theorem runSize {P : Program} {t e : TypeId} {size bytes : Nat} {zs : List Value} (hT : elemT P t = some (e, size, bytes, zs)) (w : World) : P.underlying t = some (.slice (P.elem t)) ∧ (sizeOf (P.elem t)).run P w = .ok size w := by
  obtain ⟨ht, i, z, hi, hz, hsize, hby, hzs, hzl⟩ := elemT_spec hT
  have he : P.elem t = e := by simp [Program.elem, ht]
  rw [he]
  exact ⟨ht, by simp [sizeOf, typeInfo, hi, hsize]⟩

/-- A part of a slice, as a slice. -/
def Sl.part (s : Sl) (l h m size : Nat) : Sl := ⟨if m = l then s.a else s.a.map (·.add (l * size)), h - l, m - l⟩

theorem sem_slice {P : Program} {t e : TypeId} {size bytes : Nat} {zs : List Value} (hT : elemT P t = some (e, size, bytes, zs)) {s : Sl} {lo hi mx : Option Value} {l h m : Nat} {u : H} {K : Sl → H → Prop}
    (hlo : lo = none ∧ l = 0 ∨ lo = some (.int .i64 l)) (hhi : hi = none ∧ h = s.n ∨ hi = some (.int .i64 h)) (hmx : mx = none ∧ m = s.c ∨ mx = some (.int .i64 m) ∧ hi ≠ none)
    (h1 : l ≤ h) (h2 : h ≤ m) (h3 : m ≤ s.c) (_h4 : s.n ≤ s.c) (hK : K (s.part l h m size) u) :
    SemT P (Instr.sliceAt t (.slice s.a s.n s.c) lo hi mx) [.one .slice] u K := by
  refine .one' (c := .slice) (s.part l h m size) (fun w _ => ?_) hK
  obtain ⟨ht, hs⟩ := runSize hT w
  rw [run_sliceAt_slice (w := w) (h := ht)]
  rcases hlo with ⟨rfl, rfl⟩ | rfl <;> rcases hhi with ⟨rfl, rfl⟩ | rfl <;> rcases hmx with ⟨rfl, rfl⟩ | ⟨rfl, hm⟩
  · rw [run_slice_all (w := w) (ht := ht), hs]; rfl
  · exact absurd rfl hm
  · rw [run_slice_h (w := w) (ht := ht) (h0 := by omega) (h2 := by omega), hs]; simp [Result.andThen, sliced, Sl.part, CT.enc]
  · rw [run_slice_hm (w := w) (ht := ht) (h0 := by omega) (h2 := by omega) (h3 := by omega), hs]; simp [Result.andThen, sliced, Sl.part, CT.enc]
  · rw [run_slice_l (w := w) (ht := ht) (h0 := by omega) (h1 := by omega), hs]; simp [Result.andThen, sliced, Sl.part, CT.enc]
  · exact absurd rfl hm
  · rw [run_slice_lh (w := w) (ht := ht) (h0 := by omega) (h1 := by omega) (h2 := by omega), hs]; simp [Result.andThen, sliced, Sl.part, CT.enc]
  · rw [run_slice_lhm (w := w) (ht := ht) (h0 := by omega) (h1 := by omega) (h2 := by omega) (h3 := by omega), hs]; simp [Result.andThen, sliced, Sl.part, CT.enc]

theorem Addr.add_add' (a : Addr) (i j : Nat) : (a.add i).add j = a.add (i + j) := Addr.add_add a i j

/-- What a part of a slice reads. -/
theorem Seg.part {u : H} {s : Sl} {size : Nat} {xs : List Value} (hs : Seg u s size xs) {l h m : Nat} (h1 : l ≤ h) (h2 : h ≤ s.n) (h3 : h ≤ m) (h4 : m ≤ s.c) :
    Seg u (s.part l h m size) size ((xs.drop (l * size)).take ((h - l) * size)) := by
  have hl := hs.len
  have hle : h * size ≤ s.n * size := Nat.mul_le_mul_right _ h2
  have hll : l * size ≤ h * size := Nat.mul_le_mul_right _ h1
  have hsub : (h - l) * size = h * size - l * size := Nat.sub_mul _ _ _
  refine ⟨?_, ?_, ?_, ?_⟩
  · simp only [List.length_take, List.length_drop, Sl.part]; omega
  · simp only [Sl.part]; omega
  · simp only [Sl.part]; have := hs.max; omega
  · rcases hs.at' with h0 | ⟨p, hp, hc⟩
    · subst h0; exact .inl (by simp)
    · by_cases hml : m = l
      · refine .inl ?_
        have : h = l := by omega
        simp [this]
      · refine .inr ⟨p.add (l * size), by simp [Sl.part, hml, hp], fun i v e => ?_⟩
        rw [Addr.add_add']
        refine hc _ _ ?_
        rw [List.getElem?_take] at e
        split at e
        · simpa [List.getElem?_drop] using e
        · cases e

end Go.Proofs.YtbohcdjoglidhaaGreatDoor

/- VcMem -/
namespace Go.Proofs.YtbohcdjoglidhaaGreatDoor

section
variable {α : Type} {enc : α → List Value} {k : Nat}

theorem flat_len (hk : ∀ x, (enc x).length = k) (xs : List α) : (xs.flatMap enc).length = xs.length * k := by
  induction xs with
  | nil => simp
  | cons x xs ih => rw [List.flatMap_cons, List.length_append, ih, hk, List.length_cons, Nat.succ_mul]; omega

theorem flat_get (hk : ∀ x, (enc x).length = k) : ∀ (xs : List α) (i j : Nat), j < k → (xs.flatMap enc)[i * k + j]? = (xs[i]?).bind fun x => (enc x)[j]? := by
  intro xs
  induction xs with
  | nil => intro i j _; simp
  | cons x xs ih =>
    intro i j hj
    rw [List.flatMap_cons]
    cases i with
    | zero => rw [Nat.zero_mul, Nat.zero_add, List.getElem?_append_left (by rw [hk]; exact hj)]; simp
    | succ i =>
      rw [List.getElem?_append_right (by rw [hk, Nat.succ_mul]; omega), hk]
      have : (i + 1) * k + j - k = i * k + j := by rw [Nat.succ_mul]; omega
      rw [this, ih i j hj]
      simp

theorem flat_set (hk : ∀ x, (enc x).length = k) : ∀ (xs : List α) (i : Nat) (y : α), i < xs.length →
    (xs.set i y).flatMap enc = (xs.flatMap enc).take (i * k) ++ enc y ++ (xs.flatMap enc).drop (i * k + k) := by
  intro xs
  induction xs with
  | nil => intro i y h; simp at h
  | cons x xs ih =>
    intro i y h
    cases i with
    | zero =>
      rw [Nat.zero_mul, Nat.zero_add, List.set_cons_zero, List.flatMap_cons, List.flatMap_cons, List.take_zero, List.nil_append, List.drop_append_of_le_length (by rw [hk]; exact Nat.le_refl _)]
      have : (enc x).drop k = [] := List.drop_eq_nil_of_le (by rw [hk]; exact Nat.le_refl _)
      rw [this, List.nil_append]
    | succ i =>
      rw [List.set_cons_succ, List.flatMap_cons, List.flatMap_cons, ih i y (by simpa using h)]
      have h1 : (i + 1) * k = (enc x).length + i * k := by rw [hk, Nat.succ_mul]; omega
      have h3 : ∀ r : List Value, (enc x ++ r).take ((enc x).length + i * k) = enc x ++ r.take (i * k) := fun r => by
        rw [List.take_append, List.take_of_length_le (by omega), Nat.add_sub_cancel_left]
      have h4 : ∀ r : List Value, (enc x ++ r).drop ((enc x).length + (i * k + k)) = r.drop (i * k + k) := fun r => by
        rw [List.drop_append, List.drop_eq_nil_of_le (by omega), List.nil_append, Nat.add_sub_cancel_left]
      rw [h1, Nat.add_assoc, h3, h4]
      simp only [List.append_assoc]

theorem flat_take (hk : ∀ x, (enc x).length = k) (xs : List α) (n : Nat) : (xs.flatMap enc).take (n * k) = (xs.take n).flatMap enc := by
  induction xs generalizing n with
  | nil => simp
  | cons x xs ih =>
    cases n with
    | zero => simp
    | succ n =>
      rw [List.flatMap_cons, List.take_succ_cons, List.flatMap_cons, List.take_append, List.take_of_length_le (by rw [hk, Nat.succ_mul]; omega), hk]
      have : (n + 1) * k - k = n * k := by rw [Nat.succ_mul]; omega
      rw [this, ih]

theorem flat_drop (hk : ∀ x, (enc x).length = k) (xs : List α) (n : Nat) : (xs.flatMap enc).drop (n * k) = (xs.drop n).flatMap enc := by
  induction xs generalizing n with
  | nil => simp
  | cons x xs ih =>
    cases n with
    | zero => simp
    | succ n =>
      rw [List.flatMap_cons, List.drop_succ_cons, List.drop_append, List.drop_eq_nil_of_le (by rw [hk, Nat.succ_mul]; omega), List.nil_append, hk]
      have : (n + 1) * k - k = n * k := by rw [Nat.succ_mul]; omega
      rw [this, ih]

theorem flat_n {u : H} {s : Sl} {xs : List α} (hk : ∀ x, (enc x).length = k) (hk0 : 0 < k) (h : Seg u s k (xs.flatMap enc)) : s.n = xs.length := by
  have := h.len
  rw [flat_len hk] at this
  exact (Nat.eq_of_mul_eq_mul_right hk0 this).symm

/-- An element's cells. -/
theorem Seg.elem {u : H} {s : Sl} {xs : List α} (hk : ∀ x, (enc x).length = k) (hk0 : 0 < k) (h : Seg u s k (xs.flatMap enc)) {i : Nat} {x : α} (hi : xs[i]? = some x) :
    ∃ p, s.a = some p ∧ ∀ j v, (enc x)[j]? = some v → u.cell? ((p.add (i * k)).add j) = some v := by
  have hl : i < xs.length := (List.getElem?_eq_some_iff.1 hi).1
  have h0 : i * k + 0 < (xs.flatMap enc).length := by
    rw [flat_len hk]
    calc i * k + 0 < i * k + k := by omega
      _ = (i + 1) * k := by rw [Nat.succ_mul]
      _ ≤ xs.length * k := Nat.mul_le_mul_right _ hl
  obtain ⟨p, hp, hc⟩ := h.get h0
  refine ⟨p, hp, fun j v hv => ?_⟩
  rw [Addr.add_add']
  refine hc _ _ ?_
  have hj : j < k := by rw [← hk x]; exact (List.getElem?_eq_some_iff.1 hv).1
  rw [flat_get hk xs i j hj, hi]
  exact hv

/-- A slice of one's own, and that what was known before is still known: u0: what was known when it was begun. -/
structure OwnF (u0 u : H) (e k : Nat) (s : Sl) (xs : List Value) : Prop where
  own : Own u e k s xs
  le : u0.le u
  fresh : ∀ g, s.blk = some g → u0 g = none

theorem OwnF.nil {u0 u : H} (h : u0.le u) (e k : Nat) : OwnF u0 u e k ⟨none, 0, 0⟩ [] := ⟨.nil u e k, h, fun g hg => by simp [Sl.blk] at hg⟩

theorem OwnF.mono {u0 u u' : H} {e : Nat} {s : Sl} {xs : List Value} (h : OwnF u0 u e k s xs) (hu : u.le u') : OwnF u0 u' e k s xs :=
  ⟨h.own.le fun _ _ _ hb => hu _ _ hb, h.le.trans hu, h.fresh⟩

theorem OwnF.weaken {u0 u1 u : H} {e : Nat} {s : Sl} {xs : List Value} (h : OwnF u1 u e k s xs) (h0 : u0.le u1) : OwnF u0 u e k s xs :=
  ⟨h.own, h0.trans h.le, fun g hg => by
    cases hx : u0 g with
    | none => rfl
    | some o => have := h.fresh g hg; rw [h0 _ _ hx] at this; cases this⟩

/-- What else is known stays. -/
def Else (u u' : H) (s : Sl) : Prop := ∀ b o, u b = some o → s.blk ≠ some b → u' b = some o

theorem Else.refl (u : H) (s : Sl) : Else u u s := fun _ _ h _ => h

theorem OwnF.else {u0 u u' : H} {e' k' : Nat} {s t : Sl} {xs : List Value} (h : OwnF u0 u e' k' t xs) (he : Else u u' s) (hs : ∀ g, s.blk = some g → u0 g = none) (hne : ∀ g, s.blk = some g → t.blk ≠ some g) : OwnF u0 u' e' k' t xs :=
  ⟨h.own.le fun b o hb hu => he b o hu fun hg => hne b hg hb, fun b o hb => he b o (h.le b o hb) fun hg => (by rw [hs b hg] at hb; cases hb), h.fresh⟩

/-- A new block of cells that is a slice's. -/
theorem OwnF.make {u0 u : H} (h : u0.le u) {g : Nat} (hg : u g = none) {cells : Array Value} {e n : Nat} (hn : n ≤ 9223372036854775807) (hs : cells.size = n * k) :
    OwnF u0 (u.ins g (.cells cells e (0, 0))) e k ⟨some ⟨g, 0, none⟩, n, n⟩ cells.toList := by
  refine ⟨⟨by simp [hs], .inr ⟨g, cells, rfl, H.ins_same _ _ _, Nat.le_refl _, hn, hs, ?_⟩⟩, h.trans (H.le_ins _ hg), fun g' hg' => ?_⟩
  · rw [List.take_of_length_le (by simp [hs])]
  · simp [Sl.blk] at hg'
    subst hg'
    cases hx : u0 g with
    | none => rfl
    | some o => rw [h _ _ hx] at hg; cases hg

theorem wr_toList (c : Array Value) (o : Nat) (vs : List Value) (h : o + vs.length ≤ c.size) : (wr c o vs).toList = c.toList.take o ++ vs ++ c.toList.drop (o + vs.length) := by
  have := wr_over vs c.toList o (by simpa using h)
  rw [Array.toArray_toList] at this
  rw [this]
  rfl

theorem OwnF.store {u0 u : H} {e : Nat} {s : Sl} {xs : List α} (hk : ∀ x, (enc x).length = k) (h : OwnF u0 u e k s (xs.flatMap enc)) {i : Nat} (hk0 : 0 < k) (hi : i < xs.length) {y : α} (h1 : ∀ v ∈ enc y, v.oneCell' = true)
    {p : Addr} (hp : s.a = some p) {f : H → Prop} (hf : ∀ u', OwnF u0 u' e k s ((xs.set i y).flatMap enc) → Else u u' s → (∀ b, u b = none → u' b = none) → f u') : H.St u (p.add (i * k)) (enc y) f := by
  rcases h.own.is with h0 | ⟨g, cur, ha, hg, hn, hc, hs, ht⟩
  · rw [h0] at hp; cases hp
  · rw [ha] at hp
    cases hp
    have hadd : (⟨g, 0, none⟩ : Addr).add (i * k) = ⟨g, i * k, none⟩ := by rw [Addr.add_lit, Nat.zero_add]
    have hsn := flat_n hk hk0 h.own.seg
    have hle : i * k + k ≤ s.n * k := by
      calc i * k + k = (i + 1) * k := by rw [Nat.succ_mul]
        _ ≤ s.n * k := Nat.mul_le_mul_right _ (by omega)
    have hle2 : s.n * k ≤ s.c * k := Nat.mul_le_mul_right _ hn
    rw [hadd]
    have hsz : i * k + (enc y).length ≤ cur.size := by rw [hk, hs]; omega
    refine ⟨cur, e, hg, rfl, hsz, h1, hf _ ?_ ?_ ?_⟩
    · refine ⟨⟨by rw [flat_len hk, List.length_set, hsn], .inr ⟨g, _, ha, H.ins_same _ _ _, hn, hc, ?_, ?_⟩⟩, ?_, h.fresh⟩
      · rw [← Array.length_toList, wr_toList _ _ _ hsz]
        simp only [List.length_append, List.length_take, List.length_drop, Array.length_toList]
        omega
      · rw [wr_toList _ _ _ hsz, flat_set hk xs i y hi, ← ht, hk]
        have hl1 : (cur.toList.take (i * k) ++ enc y).length = i * k + k := by simp only [List.length_append, List.length_take, Array.length_toList, hk]; omega
        rw [List.take_append, List.take_of_length_le (by omega), hl1]
        congr 1
        · congr 1
          rw [List.take_take, Nat.min_eq_left (by omega)]
        · rw [← List.drop_take]
      · exact fun b o hb => by
          have : b ≠ g := fun hbg => by
            have := h.fresh g (by simp [Sl.blk, ha])
            rw [hbg, this] at hb; cases hb
          rw [H.ins_other _ _ this]; exact h.le b o hb
    · intro b o hb hne
      rw [H.ins_other _ _ (fun hbg => hne (by simp [Sl.blk, ha, hbg]))]; exact hb
    · intro b hb
      rw [H.ins_other _ _ (fun hbg => by rw [hbg, hg] at hb; cases hb)]; exact hb

end

theorem SemT.slice_mono {P : Program} {m : Sem Value} {u : H} {K K' : Sl → H → Prop} (h : SemT P m [.one .slice] u K) (hk : ∀ s u', K s u' → K' s u') : SemT P m [.one .slice] u K' := by
  intro w hw
  obtain ⟨v, w', u', h1, ⟨vs, h2, h3, h4⟩, h5⟩ := h w hw
  refine ⟨v, w', u', h1, ⟨vs, h2, h3, ?_⟩, h5⟩
  cases h2 with
  | cons x hr =>
    cases hr
    exact (CT.un_enc .slice x _).2 (hk _ _ ((CT.un_enc .slice x _).1 h4))

/-- One element behind the others: the literal of one, and append. -/
theorem sem_push {P : Program} {t e : TypeId} {size bytes : Nat} {zs ys : List Value} {ps : Array (Nat × Value)} (hT : elemT P t = some (e, size, bytes, zs)) (hB : buildOf P t 1 ps = some (e, ys)) (hsz : 0 < size)
    (hy : ys.length = size) (h1 : ∀ y ∈ ys, y.oneCell' = true) {u0 u : H} {s : Sl} {xs : List Value} (h : OwnF u0 u e size s xs) (hm : s.n < 9223372036854775807) (hb : (s.n + 1) * bytes ≤ 140737488355328) {K : Sl → H → Prop}
    (hK : ∀ s' u', OwnF u0 u' e size s' (xs ++ ys) → s'.n = s.n + 1 → Else u u' s → (∀ g, s'.blk = some g → s.blk = some g ∨ u g = none) → s'.a ≠ none → K s' u') :
    SemT P (Instr.buildSlice t 1 ps) [.one .slice] u fun s1 u1 => u.le u1 ∧ SemT P (Builtin.append_ #[t, t] t #[.slice s.a s.n s.c, .slice s1.a s1.n s1.c]) [.one .slice] u1 K := by
  refine sem_build hB fun g hg => ⟨H.le_ins _ hg, ?_⟩
  have hx : Seg (u.ins g (.cells ys.toArray e (0, 0))) ⟨some ⟨g, 0, none⟩, 1, 1⟩ size ys := by
    have := (OwnF.make (k := size) (H.le.refl u) hg (cells := ys.toArray) (e := e) (n := 1) (by omega) (by simp [hy])).own.seg
    simpa using this
  have h' := h.mono (H.le_ins (u := u) (b := g) (.cells ys.toArray e (0, 0)) hg)
  refine sem_append hT hsz h'.own hx h1 (by simp only; omega) (by simpa using hb) fun s' u' ho hn hgr hnil => hK s' u' ⟨ho, hgr.le h'.le h.fresh, fun g' hg' => hgr.out h'.le h.fresh g' hg'⟩ (by simpa using hn) ?_ ?_ ?_
  · intro b o hb hne
    exact hgr.rest b o (H.le_ins _ hg _ _ hb) hne
  · intro g' hg'
    rcases hgr.blk with hb | ⟨g2, hb, hn2⟩
    · exact .inl (by rw [← hb]; exact hg')
    · rw [hb] at hg'; cases hg'
      refine .inr ?_
      cases hx : u g' with
      | none => rfl
      | some o => rw [H.le_ins _ hg _ _ hx] at hn2; cases hn2
  · intro hnone
    rcases ho.is with h0 | ⟨g2, _, ha, _⟩
    · have := (hnil.1 h0).2
      simp at this
    · rw [hnone] at ha; cases ha

theorem sem_push' {P : Program} {t e : TypeId} {size bytes : Nat} {zs ys : List Value} {ps : Array (Nat × Value)} (hT : elemT P t = some (e, size, bytes, zs)) (hB : buildOf P t 1 ps = some (e, ys)) (hsz : 0 < size)
    (hy : ys.length = size) (h1 : ∀ y ∈ ys, y.oneCell' = true) {u0 u : H} {s : Sl} {xs : List Value} (h : OwnF u0 u e size s xs) (hm : s.n < 9223372036854775807) (hb : (s.n + 1) * bytes ≤ 140737488355328) {K : Sl → H → Prop}
    (hK : ∀ s' u', OwnF u0 u' e size s' (xs ++ ys) → s'.n = s.n + 1 → Else u u' s → (∀ g, s'.blk = some g → s.blk = some g ∨ u g = none) → s'.a ≠ none → K s' u') :
    SemT P (Instr.buildSlice t 1 ps) [.one .slice] u fun s1 u1 => SemT P (Builtin.append_ #[t, t] t #[.slice s.a s.n s.c, .slice s1.a s1.n s1.c]) [.one .slice] u1 K := by
  exact SemT.slice_mono (sem_push hT hB hsz hy h1 h hm hb hK) fun _ _ h => h.2

/-! ### maps of ints that are sets -/

/-- A map that has just these keys, each true. -/
def SetOf (u : H) (b : Nat) (l : List Int) : Prop := ∃ es clock, u b = some (.map es clock) ∧ es.toList.map (fun e => (e.key, e.val)) = l.map fun x => (Value.int .i64 x, Value.bool true)

theorem SetOf.mono {u u' : H} {b : Nat} {l : List Int} (h : SetOf u b l) (hu : u.le u') : SetOf u' b l := by
  obtain ⟨es, c, h1, h2⟩ := h
  exact ⟨es, c, hu _ _ h1, h2⟩

theorem findNow_set (x : Int) : ∀ (es : List MapEntry) (l : List Int) (i : Nat), es.map (fun e => (e.key, e.val)) = l.map (fun x => (Value.int .i64 x, Value.bool true)) →
    (x ∈ l → ∃ j, Instr.findNow (.int .i64) (.int .i64 x) es i = some (some (j, .bool true))) ∧ (x ∉ l → Instr.findNow (.int .i64) (.int .i64 x) es i = some none) := by
  intro es
  induction es with
  | nil =>
    intro l i h
    have : l = [] := by simpa using h.symm
    subst this
    exact ⟨fun h => (by cases h), fun _ => rfl⟩
  | cons e es ih =>
    intro l i h
    cases l with
    | nil => simp at h
    | cons y l =>
      simp only [List.map_cons, List.cons.injEq, Prod.mk.injEq] at h
      obtain ⟨⟨hk, hv⟩, hr⟩ := h
      obtain ⟨i1, i2⟩ := ih l (i + 1) hr
      unfold Instr.findNow
      rw [hk, hv]
      simp only [Instr.sameNow, if_true]
      by_cases hxy : x = y
      · subst hxy
        simp
      · have hb : (x == y) = false := by simpa using hxy
        rw [hb]
        refine ⟨fun hm => ?_, fun hm => ?_⟩
        · rcases List.mem_cons.1 hm with h | h
          · exact absurd h hxy
          · exact i1 h
        · exact i2 fun h => hm (List.mem_cons_of_mem _ h)

theorem sem_makeMap {P : Program} {t : TypeId} {u : H} {K : Option Nat → H → Prop} (hK : ∀ b, u b = none → SetOf (u.ins b (.map #[] 0)) b [] → K (some b) (u.ins b (.map #[] 0))) :
    SemT P (Instr.makeMap t none) [.one .map] u K :=
  .one (c := .map) fun w hw => ⟨some w.heap.size, _, _, Go.RowKit.run_makeMap t w, hK _ (hw.none (Nat.le_refl _)) ⟨#[], 0, H.ins_same _ _ _, rfl⟩, Step.newKnown hw _⟩

structure SetTy (P : Program) (t k e : TypeId) : Prop where
  ty : P.underlying t = some (.map k e)
  key : P.underlying k = some (.int .i64)
  zero : ∀ w, (zeroValue e).run P w = .ok (.bool false) w

theorem SetTy.find {P : Program} {t k e : TypeId} (T : SetTy P t k e) {es : Array MapEntry} {l : List Int} (h : es.toList.map (fun e => (e.key, e.val)) = l.map fun x => (Value.int .i64 x, Value.bool true)) (x : Int) (w : World) :
    (x ∈ l → ∃ j, (Instr.findKey k (.int .i64 x) es.toList).run P w = .ok (some (j, .bool true)) w) ∧ (x ∉ l → (Instr.findKey k (.int .i64 x) es.toList).run P w = .ok none w) := by
  obtain ⟨h1, h2⟩ := findNow_set x es.toList l 0 h
  constructor
  · intro hx
    obtain ⟨j, hj⟩ := h1 hx
    exact ⟨j, by simp [Instr.findKey, Sem.run_bind, run_underlying T.key, Result.andThen, hj]⟩
  · intro hx
    simp [Instr.findKey, Sem.run_bind, run_underlying T.key, Result.andThen, h2 hx]

theorem SetTy.check {P : Program} {t k e : TypeId} (T : SetTy P t k e) (b : Bool) (x : Int) (w : World) : (Instr.checkKey b 10000 k (.int .i64 x)).run P w = .ok () w := by
  show (Instr.checkKey b (9999 + 1) k (.int .i64 x)).run P w = .ok () w
  unfold Instr.checkKey
  simp [Sem.run_bind, run_underlying T.key, Result.andThen]

theorem sem_lookup {P : Program} {t k e : TypeId} (T : SetTy P t k e) {u : H} {b : Nat} {l : List Int} (h : SetOf u b l) {x : Int} {K : Bool → H → Prop} (hK : K (decide (x ∈ l)) u) :
    SemT P (Instr.lookup t (.map (some b)) (.int .i64 x) false) [.one .bool] u K := by
  obtain ⟨es, c, hb, hl⟩ := h
  refine .one' (c := .bool) (decide (x ∈ l)) (fun w hw => ?_) hK
  have hg := MapKept.run_getObj_map (P := P) (hw _ _ hb)
  have hf := T.find hl x w
  have hc := T.check es.isEmpty x w
  by_cases hx : x ∈ l
  · obtain ⟨j, hj⟩ := hf.1 hx
    simp [Instr.lookup, Sem.run_bind, run_underlying T.ty, hg, hc, hj, Result.andThen, hx, CT.enc]
  · have hj := hf.2 hx
    simp [Instr.lookup, Sem.run_bind, run_underlying T.ty, hg, hc, hj, Result.andThen, hx, CT.enc, T.zero]

theorem step_block {u : H} {w : World} (hw : Sub u w) {g : Nat} {o : Obj} (hg : u g = some o) (o' : Obj) : Step u [] w (u.ins g o') [] { w with heap := w.heap.setIfInBounds g o' } := by
  have hlt := hw.lt hg
  refine ⟨fun b x h => ?_, rfl, rfl, rfl, Nat.le_refl _, by simp, fun b _ hb _ => ?_, fun b _ hb => ?_, [], by simp, by simp⟩
  · unfold H.ins at h
    split at h
    · rename_i hbg; subst hbg; cases h; simp [hlt]
    · rename_i hbg
      show (w.heap.setIfInBounds g o')[b]? = some x
      rw [Array.getElem?_setIfInBounds_ne (Ne.symm hbg)]
      exact hw b x h
  · have : g ≠ b := fun h => by rw [← h, hg] at hb; cases hb
    show (w.heap.setIfInBounds g o')[b]? = w.heap[b]?
    rw [Array.getElem?_setIfInBounds_ne this]
  · have : b ≠ g := fun h => by rw [h, hg] at hb; cases hb
    rw [H.ins_other u _ this]; exact hb

theorem sem_mapAdd {P : Program} {t k e : TypeId} (T : SetTy P t k e) {u : H} {b : Nat} {l : List Int} (h : SetOf u b l) {x : Int} (hx : x ∉ l) {K : H → Prop}
    (hK : ∀ u', SetOf u' b (l ++ [x]) → (∀ g o, u g = some o → g ≠ b → u' g = some o) → (∀ g, u g = none → u' g = none) → K u') :
    SemT P (unit (Instr.mapUpdate t (.map (some b)) (.int .i64 x) (.bool true))) [] u K := by
  obtain ⟨es, c, hb, hl⟩ := h
  intro w hw
  have hg := MapKept.run_getObj_map (P := P) (hw _ _ hb)
  have hj := (T.find hl x w).2 hx
  have hc := T.check false x w
  have hset := MapKept.run_setObj_map (P := P) (.map (es.push { key := .int .i64 x, val := .bool true, born := c }) (c + 1)) (hw _ _ hb)
  refine ⟨_, _, u.ins b (.map (es.push { key := .int .i64 x, val := .bool true, born := c }) (c + 1)), ?_, ⟨[], .nil, rfl, hK _ ⟨_, _, H.ins_same _ _ _, ?_⟩ ?_ ?_⟩, step_block hw hb _⟩
  · simp [unit, Instr.mapUpdate, Sem.run_bind, run_underlying T.ty, hg, hc, hj, Result.andThen, hset]
    rfl
  · simp [hl]
  · intro g o hgo hne; rw [H.ins_other _ _ hne]; exact hgo
  · intro g hgo; rw [H.ins_other _ _ (fun h => by rw [h, hb] at hgo; cases hgo)]; exact hgo

end Go.Proofs.YtbohcdjoglidhaaGreatDoor
