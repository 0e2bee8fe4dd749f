/- vec.ids, vec.Box. -/
import Derived.Test.YtgfafpiinencpaaGreatVcFlat2
namespace Go.Proofs.YtgfafpiinencpaaGreat

theorem build_int (x : Int) : buildOf Tryz.prog 23 1 #[(0, .int .i64 x)] = some (3, [.int .i64 x]) := by kernel_rfl

theorem own_ne_map {u0 u : H} {e k : Nat} {s : Sl} {xs : List Value} {b : Nat} {l : List Int} (h : OwnF u0 u e k s xs) (hb : SetOf u b l) : s.blk ≠ some b := by
  intro hx
  obtain ⟨es, c, hbm, _⟩ := hb
  rcases h.own.is with h0 | ⟨g, cur, ha, hg, _⟩
  · rw [h0] at hx; simp [Sl.blk] at hx
  · have : g = b := by simpa [Sl.blk, ha] using hx
    rw [this, hbm] at hg; cases hg

theorem take_ids {l : List Rw} {i : Nat} {r : Rw} (h : l[i]? = some r) : (l.take (i + 1)).map (·.id) = (l.take i).map (·.id) ++ [r.id] := by
  rw [List.take_add_one, h]; simp

theorem spec.vec_ids {s : Sl} {l : List Rw} {d : Int} {u : H} {K : Sl → Int → H → Prop} (hs : Rws u s l) (hok : Rok l d) (hK : ∀ s' u', OwnF u u' 3 1 s' ((sortI (l.map (·.id))).flatMap encI) → K s' 0 u') : C.vec_ids s d u K := by
  have hn := hs.len
  have hlen := hok.len
  apply vc.vec_ids
  refine ⟨fun h => by omega, fun _ => sem_makeMap fun b hb hset => ?_⟩
  refine ⟨fun _ _ s6 i v => 0 ≤ i ∧ i ≤ (s.n : Int) ∧ SetOf v b ((l.take i.toNat).map (·.id)) ∧ OwnF u v 3 1 s6 (((l.take i.toNat).map (·.id)).flatMap encI), fun _ _ _ i _ => s.n - i.toNat,
    ⟨by omega, by omega, by simpa using hset, OwnF.nil (H.le_ins _ hb) _ _⟩, ?_⟩
  rintro s4 x5 s6 i v ⟨i0, i1, hset, ho⟩
  refine ⟨fun hi => ?_, fun hi => ?_⟩
  · obtain ⟨p, hp, r, hr, c0, c1, hv⟩ := (hs.mono ho.le).at i0 hi
    have hrm := List.mem_of_getElem? hr
    have hid := hok.id r hrm
    obtain ⟨hvl, hvok⟩ := hok.v r hrm
    have hnew : r.id ∉ (l.take i.toNat).map (·.id) := by
      have hnd := hok.nodup
      have hsub : ((l.take (i.toNat + 1)).map (·.id)).Nodup := List.Nodup.sublist (List.Sublist.map _ (List.take_sublist _ _)) hnd
      rw [take_ids hr] at hsub
      exact fun hm => (List.nodup_append.1 hsub).2.2 _ hm _ (by simp) rfl
    have hvc : vcheck r.v d = 0 := by rw [← hvl]; exact ok_vcheck hvok (by have := hok.dim; omega)
    refine ⟨p, hp, ⟨i0, hi⟩, _, c0, _, c1, fun K12 hK12 => ⟨fun h => by omega, fun _ => ⟨fun h => by omega, fun _ => sem_lookup setTy hset ⟨fun h => absurd (by simpa using h) hnew, fun _ => hK12 _ _ _ ?_⟩⟩⟩⟩
    refine spec.vec_Check hv ⟨fun h => absurd hvc h, fun _ => sem_mapAdd setTy hset hnew fun v' hset' hkeep hkn => ?_⟩
    have hne := own_ne_map ho hset
    have ho' : OwnF u v' 3 1 s6 (((l.take i.toNat).map (·.id)).flatMap encI) :=
      ⟨ho.own.le fun g o hg hvg => hkeep g o hvg (fun e => hne (by rw [hg, e])), fun g o hg => hkeep g o (ho.le g o hg) (fun e => by rw [e, hb] at hg; cases hg), ho.fresh⟩
    have hn6 := ho'.ints.len
    simp only [List.length_map, List.length_take] at hn6
    refine sem_push' tInts (build_int _) (by decide) rfl (by simp [Value.oneCell']) ho' (by omega) (by omega) fun s' u' ho2 hn2 hel hbl _ => ⟨⟨by omega, by omega⟩, ⟨by omega, by omega, ?_, ?_⟩, by dsimp only; omega⟩
    · rw [show (i + 1).toNat = i.toNat + 1 by omega, take_ids hr]
      obtain ⟨es, c, h1, h2⟩ := hset'
      exact ⟨es, c, hel _ _ h1 hne, h2⟩
    · rw [show (i + 1).toNat = i.toNat + 1 by omega, take_ids hr, List.flatMap_append]
      exact ho2
  · have hi' : i.toNat = l.length := by omega
    rw [hi', List.take_length] at ho
    exact spec.slices_Sort___int_int_ ho (by simp; omega) fun u' ho' _ => hK s6 u' ho'

/-- The least, the greatest of coordinates, row by row. -/
def mnL (acc v : List Int) : List Int := List.zipWith (fun a x => if x < a then x else a) acc v
def mxL (acc v : List Int) : List Int := List.zipWith (fun a x => if x > a then x else a) acc v

def boxLo (l : List Rw) : List Int := l.foldl (fun acc r => mnL acc r.v) (l.headD ⟨0, ⟨none, 0, 0⟩, []⟩).v
def boxHi (l : List Rw) : List Int := l.foldl (fun acc r => mxL acc r.v) (l.headD ⟨0, ⟨none, 0, 0⟩, []⟩).v

theorem zip_len {f : Int → Int → Int} {a v : List Int} (h : a.length = v.length) : (List.zipWith f a v).length = a.length := by simp [h]

/-- One more coordinate is turned. -/
theorem zip_step {f : Int → Int → Int} {a v : List Int} (h : a.length = v.length) {j : Nat} (hj : j < a.length) :
    ((List.zipWith f a v).take j ++ a.drop j).set j (f (a.getD j 0) (v.getD j 0)) = (List.zipWith f a v).take (j + 1) ++ a.drop (j + 1) := by
  have hz := zip_len (f := f) h
  have ga : a.getD j 0 = a[j] := by rw [List.getD_eq_getElem?_getD, List.getElem?_eq_getElem hj]; rfl
  have hjv : j < v.length := by omega
  have gv : v.getD j 0 = v[j] := by rw [List.getD_eq_getElem?_getD, List.getElem?_eq_getElem hjv]; rfl
  rw [ga, gv, List.set_append_right _ _ (by simp; omega)]
  have e : j - ((List.zipWith f a v).take j).length = 0 := by simp; omega
  rw [e, List.drop_eq_getElem_cons hj, List.set_cons_zero, List.take_add_one, List.getElem?_eq_getElem (by rw [hz]; exact hj)]
  simp

theorem zip_get {f : Int → Int → Int} {a v : List Int} (h : a.length = v.length) {j : Nat} (hj : j < a.length) : ((List.zipWith f a v).take j ++ a.drop j).getD j 0 = a.getD j 0 := by
  have hz := zip_len (f := f) h
  rw [List.getD_eq_getElem?_getD, List.getElem?_append_right (by simp; omega)]
  have e : j - ((List.zipWith f a v).take j).length = 0 := by simp; omega
  rw [e, List.getElem?_drop, List.getD_eq_getElem?_getD]
  simp

theorem foldl_len {f : List Int → List Int → List Int} (hf : ∀ a v : List Int, a.length = v.length → (f a v).length = a.length) : ∀ (l : List Rw) (a : List Int), (∀ r ∈ l, r.v.length = a.length) → (l.foldl (fun acc r => f acc r.v) a).length = a.length := by
  intro l
  induction l with
  | nil => intro a _; rfl
  | cons r l ih =>
    intro a h
    have h1 := hf a r.v (h r (by simp)).symm
    rw [List.foldl_cons, ih _ (fun x hx => by rw [h1]; exact h x (by simp [hx])), h1]

theorem foldl_take {f : List Int → List Int → List Int} {l : List Rw} {i : Nat} {r : Rw} {a : List Int} (h : l[i]? = some r) : (l.take (i + 1)).foldl (fun acc r => f acc r.v) a = f ((l.take i).foldl (fun acc r => f acc r.v) a) r.v := by
  rw [List.take_add_one, h]; simp

theorem OwnF.elt {u0 u : H} {e : Nat} {s : Sl} {l : List Int} (h : OwnF u0 u e 1 s (l.flatMap encI)) {x : Int} (h0 : 0 ≤ x) (h1 : x < (s.n : Int)) : ∃ p, s.a = some p ∧ u.cell? (p.add (x.toNat * 1)) = some (.int .i64 (l.getD x.toNat 0)) := h.ints.at h0 h1

theorem spec.vec_Box {s : Sl} {l : List Rw} {d : Int} {u : H} {K : Int → Sl → Sl → Int → Int → Sl → Int → H → Prop} (hs : Rws u s l) (hok : Rok l d) (hne : l ≠ [])
    (hK : ∀ sl sh si u', OwnF u u' 3 1 sl ((boxLo l).flatMap encI) → OwnF u u' 3 1 sh ((boxHi l).flatMap encI) → OwnF u u' 3 1 si ((sortI (l.map (·.id))).flatMap encI) →
      sl.blk ≠ sh.blk → sl.blk ≠ si.blk → sh.blk ≠ si.blk → K 2 sl sh 0 0 si 0 u') : C.vec_Box s d u K := by
  have hn := hs.len
  have hlen := hok.len
  have hdim := hok.dim
  have hpos : 0 < l.length := List.length_pos_iff.2 hne
  apply vc.vec_Box
  refine spec.vec_dim ⟨fun h => absurd (by simp; omega) h, fun _ => ⟨fun h => by omega, fun _ => spec.vec_ids hs hok fun si u4 hsi => ⟨fun h => absurd rfl h, fun _ => ?_⟩⟩⟩
  obtain ⟨p, hp, r, hr, c0, c1, hv⟩ := (hs.mono hsi.le).at (x := 0) (by omega) (by omega)
  have hr0 : l[0]? = some r := hr
  have hrm := List.mem_of_getElem? hr
  have hhead : l.headD ⟨0, ⟨none, 0, 0⟩, []⟩ = r := by
    cases l with
    | nil => simp at hr0
    | cons a l => simp at hr0; simp [hr0]
  have hvl := (hok.v r hrm).1
  have hvn := hv.len
  refine ⟨p, hp, ⟨by omega, by omega⟩, p, hp, ⟨by omega, by omega⟩, r.s, c1, r.s, c1, ?_⟩
  refine spec.slices_Clone___int_int_ hv (by omega) fun sl u10 hsl _ => ⟨hsl.le, spec.slices_Clone___int_int_ (hv.mono hsl.le) (by omega) fun sh u12 hsh _ => ?_⟩
  have hsl2 := hsl.mono hsh.le
  have hsh2 := hsh.weaken hsl.le
  -- blocks are their own
  have hfar : ∀ g, sl.blk = some g → sh.blk ≠ some g := by
    intro g hg hg2
    have h1 := hsh.fresh g hg2
    rcases hsl.own.is with h0 | ⟨g', cur, ha, hg', _⟩
    · rw [h0] at hg; simp [Sl.blk] at hg
    · have : g' = g := by simpa [Sl.blk, ha] using hg
      rw [this, h1] at hg'; cases hg'
  have hall : ∀ x ∈ l, x.v.length = r.v.length := fun x hx => by have := (hok.v x hx).1; omega
  have lenLo : ∀ i, ((l.take i).foldl (fun acc r => mnL acc r.v) r.v).length = r.v.length := fun i => foldl_len (fun a v h => zip_len h) _ _ fun x hx => hall x (List.mem_of_mem_take hx)
  have lenHi : ∀ i, ((l.take i).foldl (fun acc r => mxL acc r.v) r.v).length = r.v.length := fun i => foldl_len (fun a v h => zip_len h) _ _ fun x hx => hall x (List.mem_of_mem_take hx)
  refine ⟨fun i v => 0 ≤ i ∧ i ≤ (s.n : Int) ∧ OwnF u4 v 3 1 sl (((l.take i.toNat).foldl (fun acc r => mnL acc r.v) r.v).flatMap encI) ∧ OwnF u4 v 3 1 sh (((l.take i.toNat).foldl (fun acc r => mxL acc r.v) r.v).flatMap encI),
    fun i _ => s.n - i.toNat, ⟨by omega, by omega, by simpa using hsl2, by simpa using hsh2⟩, ?_⟩
  rintro i v ⟨i0, i1, hl1, hh1⟩
  refine ⟨fun hi => ?_, fun hi => ?_⟩
  · obtain ⟨q, hq, x, hx, d0, d1, hxv⟩ := (hs.mono (hsi.le.trans hl1.le)).at i0 hi
    have hxm := List.mem_of_getElem? hx
    have hxl := hall x hxm
    have hxn := hxv.len
    have zl := lenLo i.toNat
    have zh := lenHi i.toNat
    have sl1 := foldl_take (f := mnL) (a := r.v) hx
    have sh1 := foldl_take (f := mxL) (a := r.v) hx
    generalize (l.take i.toNat).foldl (fun acc r => mnL acc r.v) r.v = A at hl1 zl sl1
    generalize (l.take i.toNat).foldl (fun acc r => mxL acc r.v) r.v = B at hh1 zh sh1
    refine ⟨q, hq, ⟨i0, hi⟩, _, d0, _, d1, fun j w => 0 ≤ j ∧ j ≤ (x.s.n : Int) ∧ OwnF u4 w 3 1 sl (((mnL A x.v).take j.toNat ++ A.drop j.toNat).flatMap encI) ∧ OwnF u4 w 3 1 sh (((mxL B x.v).take j.toNat ++ B.drop j.toNat).flatMap encI),
      fun j _ => x.s.n - j.toNat, ⟨by omega, by omega, by simpa using hl1, by simpa using hh1⟩, ?_⟩
    rintro j w ⟨j0, j1, hl2, hh2⟩
    have ll : ∀ k, ((mnL A x.v).take k ++ A.drop k).length = A.length := fun k => by simp [mnL]; omega
    have lh : ∀ k, ((mxL B x.v).take k ++ B.drop k).length = B.length := fun k => by simp [mxL]; omega
    refine ⟨fun hj => ?_, fun hj => ?_⟩
    · have hsn := hl2.ints.len
      have hhn := hh2.ints.len
      rw [ll] at hsn
      rw [lh] at hhn
      obtain ⟨px, hpx, cx⟩ := ((hs.mono (hsi.le.trans hl2.le)).2 x hxm).at j0 hj
      obtain ⟨pl, hpl, cl⟩ := hl2.elt j0 (by omega)
      obtain ⟨ph, hph, ch⟩ := hh2.elt j0 (by omega)
      unfold mnL at cl
      unfold mxL at ch
      rw [zip_get (a := A) (v := x.v) (by omega) (j := j.toNat) (by omega)] at cl
      rw [zip_get (a := B) (v := x.v) (by omega) (j := j.toNat) (by omega)] at ch
      refine ⟨px, hpx, ⟨j0, hj⟩, _, cx, pl, hpl, ⟨j0, by omega⟩, ph, hph, ⟨j0, by omega⟩, _, cl, _, ch, pl, hpl, ⟨j0, by omega⟩, ?_⟩
      refine OwnF.store (enc := encI) encI_len hl2 (by decide) (i := j.toNat) (by rw [ll]; omega) (y := if x.v.getD j.toNat 0 < A.getD j.toNat 0 then x.v.getD j.toNat 0 else A.getD j.toNat 0) (encI_one _) hpl fun u31 hl3 he3 _ => ⟨ph, hph, ⟨j0, by omega⟩, ?_⟩
      have hh3 := hh2.else (e := 0) he3 hl2.fresh hfar
      refine OwnF.store (enc := encI) encI_len hh3 (by decide) (i := j.toNat) (by rw [lh]; omega) (y := if x.v.getD j.toNat 0 > B.getD j.toNat 0 then x.v.getD j.toNat 0 else B.getD j.toNat 0) (encI_one _) hph fun u33 hh4 he4 _ => ⟨⟨by omega, by omega⟩, ⟨by omega, by omega, ?_, ?_⟩, by dsimp only; omega⟩
      · have hl4 := hl3.else (e := 0) he4 hh3.fresh (fun g hg hg2 => hfar g hg2 hg)
        rw [show (j + 1).toNat = j.toNat + 1 by omega]
        have := zip_step (f := fun a x => if x < a then x else a) (a := A) (v := x.v) (by omega) (j := j.toNat) (by omega)
        unfold mnL at hl4 ⊢
        rw [this] at hl4
        exact hl4
      · rw [show (j + 1).toNat = j.toNat + 1 by omega]
        have := zip_step (f := fun a x => if x > a then x else a) (a := B) (v := x.v) (by omega) (j := j.toNat) (by omega)
        unfold mxL at hh4 ⊢
        rw [this] at hh4
        exact hh4
    · have hj' : j.toNat = x.v.length := by omega
      refine ⟨⟨by omega, by omega⟩, ⟨by omega, by omega, ?_, ?_⟩, by dsimp only; omega⟩
      · rw [show (i + 1).toNat = i.toNat + 1 by omega, sl1]
        rw [hj', List.take_of_length_le (by unfold mnL; rw [zip_len (by omega)]; omega), List.drop_eq_nil_of_le (by omega), List.append_nil] at hl2
        exact hl2
      · rw [show (i + 1).toNat = i.toNat + 1 by omega, sh1]
        rw [hj', List.take_of_length_le (by unfold mxL; rw [zip_len (by omega)]; omega), List.drop_eq_nil_of_le (by omega), List.append_nil] at hh2
        exact hh2
  · have hi' : i.toNat = l.length := by omega
    rw [hi', List.take_length] at hl1 hh1
    have eL : boxLo l = l.foldl (fun acc r => mnL acc r.v) r.v := by unfold boxLo; rw [hhead]
    have eH : boxHi l = l.foldl (fun acc r => mxL acc r.v) r.v := by unfold boxHi; rw [hhead]
    have hsi' : ∀ g, si.blk = some g → u4 g ≠ none := by
      intro g hg
      rcases hsi.own.is with h0 | ⟨g', cur, ha, hg', _⟩
      · rw [h0] at hg; simp [Sl.blk] at hg
      · have : g' = g := by simpa [Sl.blk, ha] using hg
        rw [← this, hg']; simp
    have hsome : ∀ (sx : Sl) (L : List Int), OwnF u4 v 3 1 sx (L.flatMap encI) → 0 < L.length → ∃ g, sx.blk = some g := by
      intro sx L hx hL
      rcases hx.own.is with h0 | ⟨g, cur, ha, _⟩
      · have := hx.ints.len
        rw [h0] at this; simp at this; omega
      · exact ⟨g, by simp [Sl.blk, ha]⟩
    have hv1 : 0 < r.v.length := by omega
    have zl := lenLo l.length
    have zh := lenHi l.length
    rw [List.take_length] at zl zh
    obtain ⟨gl, hgl⟩ := hsome sl _ hl1 (by rw [zl]; exact hv1)
    obtain ⟨gh, hgh⟩ := hsome sh _ hh1 (by rw [zh]; exact hv1)
    refine hK sl sh si v (by rw [eL]; exact hl1.weaken hsi.le) (by rw [eH]; exact hh1.weaken hsi.le) (hsi.mono hl1.le) ?_ ?_ ?_
    · rw [hgl]; exact fun e => hfar gl hgl e.symm
    · rw [hgl]; exact fun e => hsi' gl e.symm (hl1.fresh gl hgl)
    · rw [hgh]; exact fun e => hsi' gh e.symm (hh1.fresh gh hgh)

end Go.Proofs.YtgfafpiinencpaaGreat
