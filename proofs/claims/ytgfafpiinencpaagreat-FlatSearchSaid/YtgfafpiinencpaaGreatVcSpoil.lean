/- Answers of one's own: two told alike, and one written over. -/
import Derived.Test.YtgfafpiinencpaaGreatVcObey
namespace Go.Proofs.YtgfafpiinencpaaGreat

/-! ### slices that share no block -/

def Far (a b : Sl) : Prop := ∀ g, a.blk = some g → b.blk ≠ some g
theorem Far.symm {a b : Sl} (h : Far a b) : Far b a := fun g hg hg2 => h g hg2 hg

/-- What lies in no block of these stays. -/
def Keep (D : List Sl) (u v : H) : Prop := ∀ b o, u b = some o → (∀ s ∈ D, s.blk ≠ some b) → v b = some o

theorem Keep.refl (D : List Sl) (u : H) : Keep D u u := fun _ _ h _ => h
theorem Keep.trans {D : List Sl} {u v w : H} (h : Keep D u v) (k : Keep D v w) : Keep D u w := fun b o hb hd => k b o (h b o hb hd) hd
theorem Else.keep {D : List Sl} {u v : H} {s : Sl} (h : Else u v s) (hs : s ∈ D) : Keep D u v := fun b o hb hd => h b o hb (hd s hs)

theorem Keep.own {D : List Sl} {u0 u v : H} {e k : Nat} {t : Sl} {xs : List Value} (hk : Keep D u v) (h : OwnF u0 u e k t xs) (hf : ∀ s ∈ D, ∀ g, s.blk = some g → u0 g = none) (hd : ∀ s ∈ D, Far s t) : OwnF u0 v e k t xs :=
  ⟨h.own.le fun b o hb hu => hk b o hu fun s hs hg => hd s hs b hg hb, fun b o hb => hk b o (h.le b o hb) fun s hs hg => (by rw [hf s hs b hg] at hb; cases hb), h.fresh⟩

theorem OwnF.far {u0 u1 u v : H} {e k e' k' : Nat} {s t : Sl} {xs ys : List Value} (h : OwnF u0 u e k s xs) (hu : u.le u1) (h' : OwnF u1 v e' k' t ys) : Far s t := fun g hg hg2 => by
  have h1 := h'.fresh g hg2
  have h2 := own_known h hg
  cases hx : u g with
  | none => exact h2 hx
  | some o => rw [hu _ _ hx] at h1; cases h1

/-- The lists of a region. -/
def Rgn.sls (r : Rgn) : List Sl := [r.ls, r.hs, r.is]

structure Own3 (u0 u : H) (r : Rgn) : Prop where
  l : OwnF u0 u 3 1 r.ls (r.lo.flatMap encI)
  h : OwnF u0 u 3 1 r.hs (r.hi.flatMap encI)
  i : OwnF u0 u 3 1 r.is (r.ids.flatMap encI)

theorem Keep.own3 {D : List Sl} {u0 u v : H} {r : Rgn} (hk : Keep D u v) (h : Own3 u0 u r) (hf : ∀ s ∈ D, ∀ g, s.blk = some g → u0 g = none) (hd : ∀ s ∈ D, ∀ t ∈ r.sls, Far s t) : Own3 u0 v r :=
  ⟨hk.own h.l hf fun s hs => hd s hs _ (by simp [Rgn.sls]), hk.own h.h hf fun s hs => hd s hs _ (by simp [Rgn.sls]), hk.own h.i hf fun s hs => hd s hs _ (by simp [Rgn.sls])⟩

/-- All slices of an answer. -/
def ansS (sh ss sr : Sl) (rest : List Rgn) : List Sl := sh :: ss :: sr :: rest.flatMap Rgn.sls

/-- An answer of one's own. -/
structure AnsO (u0 u : H) (sh ss sr : Sl) (hits : List Hit) (seen : List Int) (rest : List Rgn) : Prop where
  h : OwnF u0 u 62 3 sh (hits.flatMap encH)
  s : OwnF u0 u 3 1 ss (seen.flatMap encI)
  r : OwnF u0 u 73 6 sr (rest.flatMap encG)
  g : ∀ r ∈ rest, Own3 u0 u r
  far : (ansS sh ss sr rest).Pairwise Far

theorem AnsO.fresh {u0 u : H} {sh ss sr : Sl} {hits : List Hit} {seen : List Int} {rest : List Rgn} (h : AnsO u0 u sh ss sr hits seen rest) : ∀ s ∈ ansS sh ss sr rest, ∀ g, s.blk = some g → u0 g = none := by
  intro s hs
  simp only [ansS, List.mem_cons, List.mem_flatMap] at hs
  rcases hs with rfl | rfl | rfl | ⟨r, hr, hs⟩
  · exact h.h.fresh
  · exact h.s.fresh
  · exact h.r.fresh
  · have := h.g r hr
    simp only [Rgn.sls, List.mem_cons, List.not_mem_nil, or_false] at hs
    rcases hs with rfl | rfl | rfl
    · exact this.l.fresh
    · exact this.h.fresh
    · exact this.i.fresh

theorem AnsO.known {u0 u : H} {sh ss sr : Sl} {hits : List Hit} {seen : List Int} {rest : List Rgn} (h : AnsO u0 u sh ss sr hits seen rest) : ∀ s ∈ ansS sh ss sr rest, ∀ g, s.blk = some g → u g ≠ none := by
  intro s hs g hg
  simp only [ansS, List.mem_cons, List.mem_flatMap] at hs
  rcases hs with rfl | rfl | rfl | ⟨r, hr, hs⟩
  · exact own_known h.h hg
  · exact own_known h.s hg
  · exact own_known h.r hg
  · have := h.g r hr
    simp only [Rgn.sls, List.mem_cons, List.not_mem_nil, or_false] at hs
    rcases hs with rfl | rfl | rfl
    · exact own_known this.l hg
    · exact own_known this.h hg
    · exact own_known this.i hg

theorem AnsO.mono {u0 u u' : H} {sh ss sr : Sl} {hits : List Hit} {seen : List Int} {rest : List Rgn} (h : AnsO u0 u sh ss sr hits seen rest) (k : u.le u') : AnsO u0 u' sh ss sr hits seen rest :=
  ⟨h.h.mono k, h.s.mono k, h.r.mono k, fun r hr => ⟨(h.g r hr).l.mono k, (h.g r hr).h.mono k, (h.g r hr).i.mono k⟩, h.far⟩

theorem AnsO.le {u0 u : H} {sh ss sr : Sl} {hits : List Hit} {seen : List Int} {rest : List Rgn} (h : AnsO u0 u sh ss sr hits seen rest) : u0.le u := h.h.le

theorem AnsO.read {u0 u : H} {sh ss sr : Sl} {hits : List Hit} {seen : List Int} {rest : List Rgn} (h : AnsO u0 u sh ss sr hits seen rest) : AnsR u sh ss sr hits seen rest :=
  ⟨h.h.hts, h.s.ints, h.r.own.seg, fun r hr => ⟨(h.g r hr).l.ints, (h.g r hr).h.ints, (h.g r hr).i.ints⟩⟩

/-- Where what was new stays, the answer stays. -/
theorem AnsO.else {u0 u u' : H} {sh ss sr : Sl} {hits : List Hit} {seen : List Int} {rest : List Rgn} (h : AnsO u0 u sh ss sr hits seen rest) (he : ∀ b o, u0 b = none → u b = some o → u' b = some o) : AnsR u' sh ss sr hits seen rest := by
  have one : ∀ {e k : Nat} {s : Sl} {xs : List Value}, OwnF u0 u e k s xs → Seg u' s k xs := fun ho => (ho.own.le (u' := u') fun b o hb hu => he b o (ho.fresh b hb) hu).seg
  have ints : ∀ {e : Nat} {s : Sl} {l : List Int}, OwnF u0 u e 1 s (l.flatMap encI) → Ints u' s l := fun ho => by
    have := one ho
    rw [flatI] at this
    exact this
  exact ⟨one h.h, ints h.s, one h.r, fun r hr => ⟨ints (h.g r hr).l, ints (h.g r hr).h, ints (h.g r hr).i⟩⟩

/-! ### two answers alike -/

/-- What a region tells. -/
def Rgn.core (r : Rgn) : Int × Int × List Int × List Int × List Int := (r.sh, r.rad, r.lo, r.hi, r.ids)

theorem spec.theodolitekeep_Region {r r' : Rgn} {u : H} {K : Bool → H → Prop} (h1 : Ints u r.ls r.lo) (h2 : Ints u r.hs r.hi) (h3 : Ints u r.is r.ids) (g1 : Ints u r'.ls r'.lo) (g2 : Ints u r'.hs r'.hi) (g3 : Ints u r'.is r'.ids) (e : r.core = r'.core) (h : K true u) :
    C.theodolitekeep_Region r.sh r.ls r.hs (hiW r.rad) (loW r.rad) r.is r'.sh r'.ls r'.hs (hiW r'.rad) (loW r'.rad) r'.is u K := by
  simp only [Rgn.core, Prod.mk.injEq] at e
  obtain ⟨e1, e2, e3, e4, e5⟩ := e
  apply vc.theodolitekeep_Region
  refine ⟨fun _ => ⟨fun _ => spec.theodolitekeep_Ints h1 g1 ?_, fun hne => absurd ⟨by rw [e2], by rw [e2]⟩ hne⟩, fun hne => absurd e1 hne⟩
  rw [decide_eq_true e3]
  refine ⟨fun _ => spec.theodolitekeep_Ints h2 g2 ?_, fun hb => by cases hb⟩
  rw [decide_eq_true e4]
  refine ⟨fun _ => spec.theodolitekeep_Ints h3 g3 ?_, fun hb => by cases hb⟩
  rw [decide_eq_true e5]
  exact h

theorem spec.theodolitekeep_Answer {sh ss sr sh' ss' sr' : Sl} {hits : List Hit} {seen : List Int} {rest rest' : List Rgn} {u : H} {K : Bool → H → Prop} (ha : AnsR u sh ss sr hits seen rest) (hb : AnsR u sh' ss' sr' hits seen rest') (e : rest.map Rgn.core = rest'.map Rgn.core)
    (h : K true u) : C.theodolitekeep_Answer sh ss sr sh' ss' sr' u K := by
  have na := ha.r.len
  have nb := hb.r.len
  have ma := ha.r.max
  have hlen : rest.length = rest'.length := by simpa using congrArg List.length e
  apply vc.theodolitekeep_Answer
  intro K0 hK0
  refine spec.theodolitekeep_Hits ha.h hb.h ?_
  rw [decide_eq_true rfl]
  refine ⟨fun hb => absurd rfl hb, fun _ => spec.theodolitekeep_Ints ha.s hb.s ?_⟩
  rw [decide_eq_true rfl]
  refine ⟨fun hb => absurd rfl hb, fun _ => ⟨fun hne => absurd (by rw [na, nb, hlen]) hne, fun _ => hK0 _ _ ?_⟩⟩
  refine ⟨fun _ i v => v = u ∧ 0 ≤ i, fun _ i _ => sr.n - i.toNat, ⟨rfl, by omega⟩, ?_⟩
  rintro _ i v ⟨rfl, i0⟩
  refine ⟨fun hi => ?_, fun _ => h⟩
  obtain ⟨p, hp, g, hg, c0, c1, c2, c3, c4, c5⟩ := ha.r.at i0 hi
  obtain ⟨p', hp', g', hg', d0, d1, d2, d3, d4, d5⟩ := hb.r.at i0 (show i < (sr'.n : Int) by omega)
  have hc : g.core = g'.core := by
    have h1 : (rest.map Rgn.core)[i.toNat]? = some g.core := by rw [List.getElem?_map, hg]; rfl
    rw [e, List.getElem?_map, hg'] at h1
    exact (Option.some.inj h1).symm
  obtain ⟨a1, a2, a3⟩ := ha.r.2 g (List.mem_of_getElem? hg)
  obtain ⟨b1, b2, b3⟩ := hb.r.2 g' (List.mem_of_getElem? hg')
  exact ⟨p, hp, ⟨i0, hi⟩, _, c0, _, c1, _, c2, _, c3, _, c4, _, c5, p', hp', ⟨i0, by omega⟩, _, d0, _, d1, _, d2, _, d3, _, d4, _, d5,
    spec.theodolitekeep_Region a1 a2 a3 b1 b2 b3 hc ⟨fun hb => absurd rfl hb, fun _ => ⟨⟨by omega, by omega⟩, ⟨rfl, by omega⟩, by dsimp only; omega⟩⟩⟩

/-! ### an answer written over -/

theorem take_drop_set {α : Type} {A l : List α} {i : Nat} {x y : α} (hA : A.length = i) (h : l[i]? = some x) : (A ++ l.drop i).set i y = (A ++ [y]) ++ l.drop (i + 1) ∧ (A ++ l.drop i)[i]? = some x := by
  obtain ⟨h1, h2⟩ := List.getElem?_eq_some_iff.1 h
  have hd : l.drop i = x :: l.drop (i + 1) := by rw [List.drop_eq_getElem_cons h1, h2]
  constructor
  · rw [hd, ← hA, List.set_append_right _ _ (Nat.le_refl _), Nat.sub_self, List.set_cons_zero]
    simp
  · rw [List.getElem?_append_right (by omega), hA, Nat.sub_self, hd]
    rfl

theorem spec.theodolitekeep_Spoil {sh ss sr : Sl} {hits : List Hit} {seen : List Int} {rest : List Rgn} {u0 u : H} {K : H → Prop} (ha : AnsO u0 u sh ss sr hits seen rest) (hco : ∀ r ∈ rest, (∀ x ∈ r.lo, coordOk x) ∧ ∀ x ∈ r.hi, coordOk x)
    (hK : ∀ u', u0.le u' → Keep (ansS sh ss sr rest) u u' → K u') : C.theodolitekeep_Spoil sh ss sr u K := by
  have mh := ha.read.h.max
  have ms := ha.read.s.max
  have mr := ha.read.r.max
  have nh := ha.read.h.len
  have ns := ha.read.s.len
  have nr := ha.read.r.len
  have hfr := ha.fresh
  obtain ⟨f1, f2⟩ := List.pairwise_cons.1 ha.far
  obtain ⟨f3, f4⟩ := List.pairwise_cons.1 f2
  obtain ⟨f5, f6⟩ := List.pairwise_cons.1 f4
  have inD : ∀ s, s ∈ ansS sh ss sr rest ↔ s = sh ∨ s = ss ∨ s = sr ∨ ∃ r ∈ rest, s ∈ r.sls := fun s => by simp [ansS, List.mem_flatMap]
  generalize hD : ansS sh ss sr rest = D at hK hfr inD
  apply vc.theodolitekeep_Spoil
  refine ⟨fun i v => 0 ≤ i ∧ Keep [sh] u v ∧ ∃ L : List Hit, L.length = hits.length ∧ OwnF u0 v 62 3 sh (L.flatMap encH), fun i _ => sh.n - i.toNat, ⟨by omega, Keep.refl _ _, _, rfl, ha.h⟩, ?_⟩
  rintro i v ⟨i0, hkv, L, hL, hov⟩
  refine ⟨fun hi => ?_, fun _ => ?_⟩
  · obtain ⟨p, hp, _⟩ := hov.hts.at i0 hi
    refine ⟨p, hp, ⟨i0, hi⟩, ?_⟩
    rw [show ([Value.int .i64 (-1), .int .u64 0, .int .u64 0] : List Value) = encH (-1, 0) from by simp [encH, hiW0, loW0]]
    exact OwnF.store encH_len hov (by decide) (i := i.toNat) (by omega) (y := (-1, 0)) (encH_one _) hp fun u' ho' he _ => ⟨⟨by omega, by omega⟩, ⟨by omega, hkv.trans (he.keep (by simp)), _, by rw [List.length_set]; exact hL, ho'⟩, by dsimp only; omega⟩
  -- what was seen
  have single : ∀ {s t : Sl}, Far s t → ∀ x ∈ [s], Far x t := fun h x hx => by
    obtain rfl : x = _ := by simpa using hx
    exact h
  have fresh1 : ∀ {s : Sl}, (∀ g, s.blk = some g → u0 g = none) → ∀ x ∈ [s], ∀ g, x.blk = some g → u0 g = none := fun h x hx => by
    obtain rfl : x = _ := by simpa using hx
    exact h
  have hs1 := hkv.own ha.s (fresh1 ha.h.fresh) (single (f1 ss (by simp)))
  have hr1 := hkv.own ha.r (fresh1 ha.h.fresh) (single (f1 sr (by simp)))
  have hg1 : ∀ r ∈ rest, Own3 u0 v r := fun r hr => hkv.own3 (ha.g r hr) (fresh1 ha.h.fresh) fun s hs t ht => single (f1 t (by simp only [List.mem_cons, List.mem_flatMap]; exact .inr (.inr ⟨r, hr, ht⟩))) s hs
  have hkD : Keep D u v := fun b o hb hd => hkv b o hb fun s hs => hd s ((inD s).2 (.inl (by simpa using hs)))
  clear hov hL L hkv
  refine ⟨fun i w => 0 ≤ i ∧ Keep [ss] v w ∧ ∃ L : List Int, L.length = seen.length ∧ OwnF u0 w 3 1 ss (L.flatMap encI), fun i _ => ss.n - i.toNat, ⟨by omega, Keep.refl _ _, _, rfl, hs1⟩, ?_⟩
  rintro j w ⟨j0, hkw, L, hL, how⟩
  refine ⟨fun hj => ?_, fun _ => ?_⟩
  · obtain ⟨p, hp, _⟩ := how.ints.at j0 hj
    exact ⟨p, hp, ⟨j0, hj⟩, OwnF.store encI_len how (by decide) (i := j.toNat) (by omega) (y := -1) (encI_one _) hp fun u' ho' he _ => ⟨⟨by omega, by omega⟩, ⟨by omega, hkw.trans (he.keep (by simp)), _, by rw [List.length_set]; exact hL, ho'⟩, by dsimp only; omega⟩⟩
  have hr2 := hkw.own hr1 (fresh1 ha.s.fresh) (single (f3 sr (by simp)))
  have hg2 : ∀ r ∈ rest, Own3 u0 w r := fun r hr => hkw.own3 (hg1 r hr) (fresh1 ha.s.fresh) fun s hs t ht => single (f3 t (by simp only [List.mem_cons, List.mem_flatMap]; exact .inr ⟨r, hr, ht⟩)) s hs
  have hkD2 : Keep D u w := hkD.trans fun b o hb hd => hkw b o hb fun s hs => hd s ((inD s).2 (.inr (.inl (by simpa using hs))))
  clear how hL L hkw hkD hg1 hr1 hs1
  -- what was left
  refine ⟨fun i z => 0 ≤ i ∧ i ≤ (sr.n : Int) ∧ Keep D u z ∧ (∃ Z : List Rgn, Z.length = i.toNat ∧ OwnF u0 z 73 6 sr ((Z ++ rest.drop i.toNat).flatMap encG)) ∧ ∀ r ∈ rest.drop i.toNat, Own3 u0 z r, fun i _ => sr.n - i.toNat,
    ⟨by omega, by omega, hkD2, ⟨[], rfl, by simpa using hr2⟩, by simpa using hg2⟩, ?_⟩
  clear hkD2 hg2 hr2
  rintro x z ⟨x0, x1, hkz, ⟨Z, hZ, hoz⟩, hgz⟩
  refine ⟨fun hx => ?_, fun _ => hK z hoz.le hkz⟩
  have hxl : x.toNat < rest.length := by omega
  obtain ⟨g, hg⟩ : ∃ g, rest[x.toNat]? = some g := ⟨_, List.getElem?_eq_getElem hxl⟩
  have hgm := List.mem_of_getElem? hg
  have hdrop : rest.drop x.toNat = g :: rest.drop (x.toNat + 1) := by
    rw [List.drop_eq_getElem_cons hxl, (List.getElem?_eq_some_iff.1 hg).2]
  obtain ⟨gl, gh, gi⟩ := hgz g (by rw [hdrop]; simp)
  have hgr : ∀ r ∈ rest.drop (x.toNat + 1), Own3 u0 z r := fun r hr => hgz r (by rw [hdrop]; simp [hr])
  obtain ⟨c1, c2⟩ := hco g hgm
  have nl := gl.ints.len
  have nhh := gh.ints.len
  have ni := gi.ints.len
  have ml := gl.ints.max
  have mhh := gh.ints.max
  have mi := gi.ints.max
  -- the blocks of this region, and of those behind it
  have fsub : (g.sls ++ (rest.drop (x.toNat + 1)).flatMap Rgn.sls).Pairwise Far := by
    have h1 : rest.flatMap Rgn.sls = (rest.take x.toNat).flatMap Rgn.sls ++ (rest.drop x.toNat).flatMap Rgn.sls := by rw [← List.flatMap_append, List.take_append_drop]
    rw [h1, hdrop, List.flatMap_cons] at f6
    exact (List.pairwise_append.1 f6).2.1
  obtain ⟨fg, _, fx⟩ := List.pairwise_append.1 fsub
  obtain ⟨fl, fg2⟩ := List.pairwise_cons.1 fg
  obtain ⟨fh, _⟩ := List.pairwise_cons.1 fg2
  have srg : ∀ t ∈ g.sls, Far sr t := fun t ht => f5 t (List.mem_flatMap.2 ⟨g, hgm, ht⟩)
  have srr : ∀ r ∈ rest.drop (x.toNat + 1), ∀ t ∈ r.sls, Far sr t := fun r hr t ht => f5 t (List.mem_flatMap.2 ⟨r, List.mem_of_mem_drop hr, ht⟩)
  have gr : ∀ s ∈ g.sls, ∀ r ∈ rest.drop (x.toNat + 1), ∀ t ∈ r.sls, Far s t := fun s hs r hr t ht => fx s hs t (List.mem_flatMap.2 ⟨r, hr, ht⟩)
  have gD : ∀ s ∈ g.sls, s ∈ D := fun s hs => (inD s).2 (.inr (.inr (.inr ⟨g, hgm, hs⟩)))
  have iZ : (Z ++ rest.drop x.toNat)[x.toNat]? = some g := (take_drop_set (y := g) hZ hg).2
  have hat : ∃ p, sr.a = some p ∧ ∀ j v, (encG g)[j]? = some v → z.cell? ((p.add (x.toNat * 6)).add j) = some v := Seg.elem encG_len (by decide) hoz.own.seg iZ
  obtain ⟨p, hp, hc⟩ := hat
  refine ⟨p, hp, ⟨x0, hx⟩, _, hc 0 _ rfl, _, hc 1 _ rfl, _, hc 2 _ rfl, _, hc 3 _ rfl, _, hc 4 _ rfl, _, hc 5 _ rfl, ?_⟩
  refine ⟨fun j w => 0 ≤ j ∧ Keep [g.ls] z w ∧ ∃ A : List Int, A.length = j.toNat ∧ OwnF u0 w 3 1 g.ls ((A ++ g.lo.drop j.toNat).flatMap encI), fun j _ => g.ls.n - j.toNat, ⟨by omega, Keep.refl _ _, [], rfl, by simpa using gl⟩, ?_⟩
  rintro j w1 ⟨j0, hk1, A, hA, ho1⟩
  refine ⟨fun hj => ?_, fun _ => ?_⟩
  · have hjl : j.toNat < g.lo.length := by omega
    obtain ⟨s1, s2⟩ := take_drop_set (A := A) (l := g.lo) (y := g.lo[j.toNat] + 7) hA (List.getElem?_eq_getElem hjl)
    have hn1 := ho1.ints.len
    obtain ⟨p', hp', y, hy, d0⟩ := ho1.ints.get j0 hj
    rw [s2] at hy
    cases hy
    have := c1 _ (List.getElem_mem hjl)
    unfold coordOk at this
    refine ⟨p', hp', ⟨j0, hj⟩, _, d0, ⟨by omega, by omega⟩, p', hp', ⟨j0, hj⟩, OwnF.store encI_len ho1 (by decide) (i := j.toNat) (by omega) (y := g.lo[j.toNat] + 7) (encI_one _) hp' fun u' ho' he _ => ⟨⟨by omega, by omega⟩, ⟨by omega, hk1.trans (he.keep (by simp)), A ++ [g.lo[j.toNat] + 7], by simp; omega, ?_⟩, by dsimp only; omega⟩⟩
    rw [s1] at ho'
    rw [show (j + 1).toNat = j.toNat + 1 by omega]
    exact ho'
  have gh1 := hk1.own gh (fresh1 gl.fresh) (single (fl g.hs (by simp)))
  have gi1 := hk1.own gi (fresh1 gl.fresh) (single (fl g.is (by simp)))
  have hoz1 := hk1.own hoz (fresh1 gl.fresh) (single (srg g.ls (by simp [Rgn.sls])).symm)
  have hgr1 : ∀ r ∈ rest.drop (x.toNat + 1), Own3 u0 w1 r := fun r hr => hk1.own3 (hgr r hr) (fresh1 gl.fresh) fun s hs t ht => single (gr g.ls (by simp [Rgn.sls]) r hr t ht) s hs
  have hkz1 : Keep D u w1 := hkz.trans fun b o hb hd => hk1 b o hb fun s hs => hd s (gD s (by simp at hs; simp [Rgn.sls, hs]))
  clear ho1 hA A hk1
  refine ⟨fun j w => 0 ≤ j ∧ Keep [g.hs] w1 w ∧ ∃ A : List Int, A.length = j.toNat ∧ OwnF u0 w 3 1 g.hs ((A ++ g.hi.drop j.toNat).flatMap encI), fun j _ => g.hs.n - j.toNat, ⟨by omega, Keep.refl _ _, [], rfl, by simpa using gh1⟩, ?_⟩
  rintro j w2 ⟨j0, hk2, A, hA, ho2⟩
  refine ⟨fun hj => ?_, fun _ => ?_⟩
  · have hjl : j.toNat < g.hi.length := by omega
    obtain ⟨s1, s2⟩ := take_drop_set (A := A) (l := g.hi) (y := g.hi[j.toNat] - 7) hA (List.getElem?_eq_getElem hjl)
    have hn1 := ho2.ints.len
    obtain ⟨p', hp', y, hy, d0⟩ := ho2.ints.get j0 hj
    rw [s2] at hy
    cases hy
    have := c2 _ (List.getElem_mem hjl)
    unfold coordOk at this
    refine ⟨p', hp', ⟨j0, hj⟩, _, d0, ⟨by omega, by omega⟩, p', hp', ⟨j0, hj⟩, OwnF.store encI_len ho2 (by decide) (i := j.toNat) (by omega) (y := g.hi[j.toNat] - 7) (encI_one _) hp' fun u' ho' he _ => ⟨⟨by omega, by omega⟩, ⟨by omega, hk2.trans (he.keep (by simp)), A ++ [g.hi[j.toNat] - 7], by simp; omega, ?_⟩, by dsimp only; omega⟩⟩
    rw [s1] at ho'
    rw [show (j + 1).toNat = j.toNat + 1 by omega]
    exact ho'
  have gi2 := hk2.own gi1 (fresh1 gh.fresh) (single (fh g.is (by simp)))
  have hoz2 := hk2.own hoz1 (fresh1 gh.fresh) (single (srg g.hs (by simp [Rgn.sls])).symm)
  have hgr2 : ∀ r ∈ rest.drop (x.toNat + 1), Own3 u0 w2 r := fun r hr => hk2.own3 (hgr1 r hr) (fresh1 gh.fresh) fun s hs t ht => single (gr g.hs (by simp [Rgn.sls]) r hr t ht) s hs
  have hkz2 : Keep D u w2 := hkz1.trans fun b o hb hd => hk2 b o hb fun s hs => hd s (gD s (by simp at hs; simp [Rgn.sls, hs]))
  clear ho2 hA A hk2
  refine ⟨fun j w => 0 ≤ j ∧ Keep [g.is] w2 w ∧ ∃ A : List Int, A.length = g.ids.length ∧ OwnF u0 w 3 1 g.is (A.flatMap encI), fun j _ => g.is.n - j.toNat, ⟨by omega, Keep.refl _ _, _, rfl, gi2⟩, ?_⟩
  rintro j w3 ⟨j0, hk3, A, hA, ho3⟩
  refine ⟨fun hj => ?_, fun _ => ?_⟩
  · obtain ⟨p', hp', _⟩ := ho3.ints.at j0 hj
    exact ⟨p', hp', ⟨j0, hj⟩, OwnF.store encI_len ho3 (by decide) (i := j.toNat) (by omega) (y := -1) (encI_one _) hp' fun u' ho' he _ => ⟨⟨by omega, by omega⟩, ⟨by omega, hk3.trans (he.keep (by simp)), _, by rw [List.length_set]; exact hA, ho'⟩, by dsimp only; omega⟩⟩
  have hoz3 := hk3.own hoz2 (fresh1 gi.fresh) (single (srg g.is (by simp [Rgn.sls])).symm)
  have hgr3 : ∀ r ∈ rest.drop (x.toNat + 1), Own3 u0 w3 r := fun r hr => hk3.own3 (hgr2 r hr) (fresh1 gi.fresh) fun s hs t ht => single (gr g.is (by simp [Rgn.sls]) r hr t ht) s hs
  have hkz3 : Keep D u w3 := hkz2.trans fun b o hb hd => hk3 b o hb fun s hs => hd s (gD s (by simp at hs; simp [Rgn.sls, hs]))
  clear ho3 hA A hk3
  refine ⟨p, hp, ⟨x0, hx⟩, ?_⟩
  rw [show ([Value.int .i64 0, .slice none 0 0, .slice none 0 0, .int .u64 0, .int .u64 0, .slice none 0 0] : List Value) = encG ⟨0, ⟨none, 0, 0⟩, ⟨none, 0, 0⟩, 0, ⟨none, 0, 0⟩, [], [], []⟩ from by simp [encG, hiW0, loW0]]
  refine OwnF.store encG_len hoz3 (by decide) (i := x.toNat) (by simp; omega) (y := ⟨0, ⟨none, 0, 0⟩, ⟨none, 0, 0⟩, 0, ⟨none, 0, 0⟩, [], [], []⟩) (encG_one _) hp fun u' ho' he _ => ⟨⟨by omega, by omega⟩, ⟨by omega, by omega, hkz3.trans (he.keep ((inD sr).2 (.inr (.inr (.inl rfl))))), ⟨Z ++ [⟨0, ⟨none, 0, 0⟩, ⟨none, 0, 0⟩, 0, ⟨none, 0, 0⟩, [], [], []⟩], by simp; omega, ?_⟩, fun r hr => ?_⟩, by dsimp only; omega⟩
  · rw [(take_drop_set hZ hg).1] at ho'
    rw [show (x + 1).toNat = x.toNat + 1 by omega]
    exact ho'
  · rw [show (x + 1).toNat = x.toNat + 1 by omega] at hr
    exact (he.keep (D := [sr]) (by simp)).own3 (hgr3 r hr) (fresh1 hoz3.fresh) fun s hs t ht => single (srr r hr t ht) s hs

end Go.Proofs.YtgfafpiinencpaaGreat
