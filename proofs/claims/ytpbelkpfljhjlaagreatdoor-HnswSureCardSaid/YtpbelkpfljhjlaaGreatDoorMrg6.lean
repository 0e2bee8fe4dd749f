/- Texts of mine, joined by merge.py: VcObey, VcSpoil, VcLawF, VcFrame, VcSort2, VcOwn, VcOwn2, VcTable, VcTable2, VcMaps. -/
import Derived.Test.YtpbelkpfljhjlaaGreatDoorMrg5
import Derived.Shelf.SlSortCmp.Whole1
import Derived.Laws.NewFold
import Derived.Maps.RangeRun
set_option maxRecDepth 100000

/- VcObey -/
namespace Go.Proofs.YtpbelkpfljhjlaaGreatDoor

theorem sem_appendF {P : Program} {t ty e : TypeId} {size bytes : Nat} {zs : List Value} (hT : elemT P t = some (e, size, bytes, zs)) (hsz : 0 < size) {s x : Sl} {xs ys : List Value} {u0 u : H} {K : Sl → H → Prop}
    (ho : OwnF u0 u e size s xs) (hx : Seg u x size ys) (h1 : ∀ y ∈ ys, y.oneCell' = true) (hm : s.n + x.n ≤ 9223372036854775807) (hb : (s.n + x.n) * bytes ≤ 140737488355328)
    (hK : ∀ s' u', OwnF u0 u' e size s' (xs ++ ys) → s'.n = s.n + x.n → K s' u') :
    SemT P (Builtin.append_ #[t, t] ty #[.slice s.a s.n s.c, .slice x.a x.n x.c]) [.one .slice] u K :=
  sem_append hT hsz ho.own hx h1 hm hb fun s' u' h2 h3 hgr _ => hK s' u' ⟨h2, hgr.le ho.le ho.fresh, fun g' hg' => hgr.out ho.le ho.fresh g' hg'⟩ h3

theorem Ints.part {u : H} {s : Sl} {L : List Int} (hs : Ints u s L) {l h m : Nat} (h1 : l ≤ h) (h2 : h ≤ s.n) (h3 : h ≤ m) (h4 : m ≤ s.c) : Ints u (s.part l h m 1) ((L.drop l).take (h - l)) := by
  have := Seg.part hs h1 h2 h3 h4
  rw [Nat.mul_one, Nat.mul_one, ← List.map_drop, ← List.map_take] at this
  exact this

theorem Ints.nil (u : H) : Ints u ⟨none, 0, 0⟩ [] := (OwnF.nil (H.le.refl u) 0 1).own.seg

theorem Ints.get {u : H} {s : Sl} {L : List Int} (hs : Ints u s L) {x : Int} (h0 : 0 ≤ x) (h1 : x < (s.n : Int)) : ∃ p, s.a = some p ∧ ∃ y, L[x.toNat]? = some y ∧ u.cell? (p.add (x.toNat * 1)) = some (.int .i64 y) := by
  obtain ⟨p, hp, hc⟩ := hs.at h0 h1
  have hn := hs.len
  have hl : x.toNat < L.length := by omega
  refine ⟨p, hp, L[x.toNat], List.getElem?_eq_getElem hl, ?_⟩
  rw [hc]
  simp [List.getD_eq_getElem?_getD, hl]

/-! ### rows and numbers -/

theorem spec.theodoliteref05_find {s : Sl} {l : List Rw} {x : Int} {u : H} {K : Int → H → Prop} (hs : Rws u s l) (h1 : ∀ (i : Nat) r, l[i]? = some r → r.id = x → K i u) (h2 : (∀ r ∈ l, r.id ≠ x) → K (-1) u) : C.theodoliteref05_find s x u K := by
  have hn := hs.len
  have hmx := hs.max
  apply vc.theodoliteref05_find
  refine ⟨fun _ i v => v = u ∧ 0 ≤ i ∧ ∀ r ∈ l.take i.toNat, r.id ≠ x, fun _ i _ => s.n - i.toNat, ⟨rfl, by omega, fun r hr => by simp at hr⟩, ?_⟩
  rintro _ i v ⟨rfl, i0, hi0⟩
  refine ⟨fun hi => ?_, fun hi => h2 fun r hr => hi0 r (by rw [List.take_of_length_le (by omega)]; exact hr)⟩
  obtain ⟨p, hp, r, hr, c0, _, _⟩ := hs.at i0 hi
  refine ⟨p, hp, ⟨i0, hi⟩, _, c0, fun he => ?_, fun hne => ⟨⟨by omega, by omega⟩, ⟨rfl, by omega, fun r' hr' => ?_⟩, by dsimp only; omega⟩⟩
  · have := h1 i.toNat r hr he
    rw [show ((i.toNat : Nat) : Int) = i by omega] at this
    exact this
  · rw [show (i + 1).toNat = i.toNat + 1 by omega, List.take_add_one, hr] at hr'
    rcases List.mem_append.1 hr' with h | h
    · exact hi0 r' h
    · obtain rfl : r' = r := by simpa using h
      exact hne

theorem spec.theodoliteref03_With {s : Sl} {L : List Int} {x : Int} {u : H} {K : Sl → H → Prop} (hs : Ints u s (sortI L)) (hb : L.length ≤ 1000000) (hK : ∀ s' u', OwnF u u' 3 1 s' ((sortI (x :: L)).flatMap encI) → K s' u') : C.theodoliteref03_With s x u K := by
  have hn := hs.len
  have hcap : s.n ≤ s.c := Seg.cap hs
  have hsl := sortI_len L
  apply vc.theodoliteref03_With
  intro K0 hK0
  have one : ∀ (l : List Int), ∀ y ∈ l.flatMap encI, y.oneCell' = true := fun l y hy => by
    obtain ⟨h, _, hy⟩ := List.mem_flatMap.1 hy
    exact encI_one h y hy
  have fin : ∀ k : Nat, k ≤ s.n → (∀ y ∈ (sortI L).take k, y < x) → (∀ y, (sortI L)[k]? = some y → x ≤ y) → K0 (k : Int) u := by
    intro k hk h1 h2
    refine hK0 _ _ ?_
    refine sem_slice (l := 0) (h := k) (m := s.c) tInts (.inl ⟨rfl, rfl⟩) (.inr rfl) (.inl ⟨rfl, rfl⟩) (Nat.zero_le _) (by omega) (Nat.le_refl _) hcap ?_
    have p1 := hs.part (l := 0) (h := k) (m := s.c) (Nat.zero_le _) hk (by omega) (Nat.le_refl _)
    rw [List.drop_zero, Nat.sub_zero] at p1
    have p1' : Seg u (s.part 0 k s.c 1) 1 (((sortI L).take k).flatMap encI) := by rw [flatI]; exact p1
    have pn1 : (s.part 0 k s.c 1).n = k := rfl
    refine sem_appendF (s := ⟨none, 0, 0⟩) tInts (by decide) (OwnF.nil (H.le.refl u) 3 1) p1' (one _) (by rw [pn1]; show 0 + k ≤ _; omega) (by rw [pn1]; show (0 + k) * 8 ≤ _; omega) fun s5 u6 h5 n5' => ?_
    have n5 : s5.n = k := by rw [pn1] at n5'; simpa using n5'
    refine sem_push' tInts (build_int x) (by decide) rfl (by simp [Value.oneCell']) h5 (by omega) (by omega) fun s9 u10 h9 n9 _ _ _ => ?_
    refine sem_slice (l := k) (h := s.n) (m := s.c) tInts (.inr rfl) (.inl ⟨rfl, rfl⟩) (.inl ⟨rfl, rfl⟩) hk hcap (Nat.le_refl _) hcap ?_
    have p2 := (hs.mono h9.le).part (l := k) (h := s.n) (m := s.c) hk (Nat.le_refl _) hcap (Nat.le_refl _)
    rw [List.take_of_length_le (by simp; omega)] at p2
    have p2' : Seg u10 (s.part k s.n s.c 1) 1 (((sortI L).drop k).flatMap encI) := by rw [flatI]; exact p2
    have pn2 : (s.part k s.n s.c 1).n = s.n - k := rfl
    refine sem_appendF tInts (by decide) h9 p2' (one _) (by rw [pn2]; omega) (by rw [pn2]; omega) fun s13 u14 h13 _ => hK s13 u14 ?_
    rw [← sortI_with (by omega) h1 h2]
    simpa [List.flatMap_append, encI] using h13
  refine ⟨fun i v => v = u ∧ 0 ≤ i ∧ i ≤ (s.n : Int) ∧ ∀ y ∈ (sortI L).take i.toNat, y < x, fun i _ => s.n - i.toNat, ⟨rfl, by omega, by omega, by simp⟩, ?_⟩
  rintro i v ⟨rfl, i0, i1, hp⟩
  have ei : ((i.toNat : Nat) : Int) = i := by omega
  refine ⟨fun hi => ?_, fun hi => ?_⟩
  · obtain ⟨p, hp1, y, hy, c0⟩ := hs.get i0 hi
    refine ⟨p, hp1, ⟨i0, hi⟩, _, c0, fun hlt' => ⟨⟨by omega, by omega⟩, ⟨rfl, by omega, by omega, ?_⟩, by dsimp only; omega⟩, fun hge => ?_⟩
    · rw [show (i + 1).toNat = i.toNat + 1 by omega, List.take_add_one, hy]
      intro z hz
      rcases List.mem_append.1 hz with h | h
      · exact hp z h
      · obtain rfl : z = y := by simpa using h
        exact hlt'
    · have := fin i.toNat (by omega) hp fun z hz => by rw [hy] at hz; cases hz; omega
      rw [ei] at this
      exact this
  · have := fin i.toNat (by omega) hp fun z hz => by
      have := (List.getElem?_eq_some_iff.1 hz).1
      omega
    rw [ei] at this
    exact this

theorem sortI_nil : sortI [] = [] := by simp [sortI]

theorem spec.theodoliteref03_Ids {s : Sl} {l : List Rw} {u : H} {K : Sl → H → Prop} (hs : Rws u s l) (hb : l.length ≤ 1000000) (hK : ∀ s' u', u.le u' → Ints u' s' (sortI (l.map (·.id))) → K s' u') : C.theodoliteref03_Ids s u K := by
  have hn := hs.len
  apply vc.theodoliteref03_Ids
  refine ⟨fun t i v => 0 ≤ i ∧ u.le v ∧ Ints v t (sortI ((l.take i.toNat).map (·.id))), fun _ i _ => s.n - i.toNat, ⟨by omega, H.le.refl u, by simpa [sortI_nil] using Ints.nil u⟩, ?_⟩
  rintro t i v ⟨i0, hle, ht⟩
  change Ints v t _ at ht
  refine ⟨fun hi => ?_, fun hi => ?_⟩
  · obtain ⟨p, hp, r, hr, c0, _, _⟩ := (hs.mono hle).at i0 hi
    refine ⟨p, hp, ⟨i0, hi⟩, _, c0, spec.theodoliteref03_With ht (by simp; omega) fun s' u' ho => ⟨⟨by omega, by omega⟩, ⟨by omega, hle.trans ho.le, ?_⟩, by dsimp only; omega⟩⟩
    rw [show (i + 1).toNat = i.toNat + 1 by omega, take_ids hr, sortI_eq (List.perm_append_singleton _ _)]
    exact ho.ints
  · rw [List.take_of_length_le (by omega)] at ht
    exact hK t v hle ht

theorem spec.theodoliteref03_Ints {s t : Sl} {a b : List Int} {u : H} {K : Bool → H → Prop} (hs : Ints u s a) (ht : Ints u t b) (h : K (decide (a = b)) u) : C.theodoliteref03_Ints s t u K := by
  have key : ∀ z, decide (a = b) = z → K z u := fun z e => e ▸ h
  have hn := hs.len
  have hm := ht.len
  have hmx := hs.max
  apply vc.theodoliteref03_Ints
  refine ⟨fun hne => key _ ?_, fun he => ?_⟩
  · have : a ≠ b := fun e => hne (by rw [hn, hm, e])
    simp [this]
  · refine ⟨fun _ i v => v = u ∧ 0 ≤ i ∧ i ≤ (s.n : Int) ∧ a.take i.toNat = b.take i.toNat, fun _ i _ => s.n - i.toNat, ⟨rfl, by omega, by omega, by simp⟩, ?_⟩
    rintro _ i v ⟨rfl, h0, h1, hp⟩
    refine ⟨fun hi => ?_, fun hi => key _ ?_⟩
    · obtain ⟨p, hp1, x, hx, c0⟩ := hs.get h0 hi
      obtain ⟨q, hq1, y, hy, d0⟩ := ht.get h0 (show i < (t.n : Int) by omega)
      refine ⟨p, hp1, ⟨h0, hi⟩, q, hq1, ⟨h0, by omega⟩, _, c0, _, d0, fun hne => key _ ?_, fun hxy => ⟨⟨by omega, by omega⟩, ⟨rfl, by omega, by omega, ?_⟩, by dsimp only; omega⟩⟩
      · have : a ≠ b := fun e => hne (by rw [e, hy] at hx; cases hx; rfl)
        simp [this]
      · have e1 : (i + 1).toNat = i.toNat + 1 := by omega
        rw [e1, List.take_add_one, List.take_add_one, hp, hx, hy, hxy]
    · have e1 : i.toNat = a.length := by omega
      rw [e1, List.take_length, ← hn, show s.n = b.length by omega, List.take_length] at hp
      simp [hp]

/-! ### regions -/

structure Rgn where
  sh : Int
  ls : Sl
  hs : Sl
  rad : Int
  is : Sl
  lo : List Int
  hi : List Int
  ids : List Int

def encG (r : Rgn) : List Value := [.int .i64 r.sh, .slice r.ls.a r.ls.n r.ls.c, .slice r.hs.a r.hs.n r.hs.c, .int .u64 (hiW r.rad), .int .u64 (loW r.rad), .slice r.is.a r.is.n r.is.c]
theorem encG_len (r : Rgn) : (encG r).length = 6 := rfl
theorem encG_one (r : Rgn) : ∀ v ∈ encG r, v.oneCell' = true := by simp [encG, Value.oneCell']

def Rgs (u : H) (s : Sl) (l : List Rgn) : Prop := Seg u s 6 (l.flatMap encG) ∧ ∀ r ∈ l, Ints u r.ls r.lo ∧ Ints u r.hs r.hi ∧ Ints u r.is r.ids

theorem Rgs.len {u : H} {s : Sl} {l : List Rgn} (h : Rgs u s l) : s.n = l.length := flat_n encG_len (by decide) h.1
theorem Rgs.max {u : H} {s : Sl} {l : List Rgn} (h : Rgs u s l) : s.n ≤ 9223372036854775807 := Nat.le_trans (Seg.cap h.1) (Seg.max h.1)
theorem Rgs.mono {u u' : H} {s : Sl} {l : List Rgn} (h : Rgs u s l) (k : u.le u') : Rgs u' s l := ⟨Seg.mono h.1 k, fun r hr => ⟨(h.2 r hr).1.mono k, (h.2 r hr).2.1.mono k, (h.2 r hr).2.2.mono k⟩⟩

theorem Rgs.at {u : H} {s : Sl} {l : List Rgn} (h : Rgs u s l) {x : Int} (h0 : 0 ≤ x) (h1 : x < (s.n : Int)) : ∃ p, s.a = some p ∧ ∃ q : Rgn, l[x.toNat]? = some q ∧
    u.cell? (p.add (x.toNat * 6)) = some (.int .i64 q.sh) ∧ u.cell? ((p.add (x.toNat * 6)).add 1) = some (.slice q.ls.a q.ls.n q.ls.c) ∧ u.cell? ((p.add (x.toNat * 6)).add 2) = some (.slice q.hs.a q.hs.n q.hs.c) ∧
    u.cell? ((p.add (x.toNat * 6)).add 3) = some (.int .u64 (hiW q.rad)) ∧ u.cell? ((p.add (x.toNat * 6)).add 4) = some (.int .u64 (loW q.rad)) ∧ u.cell? ((p.add (x.toNat * 6)).add 5) = some (.slice q.is.a q.is.n q.is.c) := by
  have hn := h.len
  have hl : x.toNat < l.length := by omega
  obtain ⟨p, hp, hc⟩ := Seg.elem encG_len (by decide) h.1 (List.getElem?_eq_getElem hl)
  exact ⟨p, hp, _, List.getElem?_eq_getElem hl, hc 0 _ rfl, hc 1 _ rfl, hc 2 _ rfl, hc 3 _ rfl, hc 4 _ rfl, hc 5 _ rfl⟩

/-- A region that may be in an answer, of a dimension. -/
structure RegOk (r : Rgn) (d : Int) : Prop where
  dim : 1 ≤ d ∧ d ≤ 64
  ids : Rise r.ids
  id : ∀ x ∈ r.ids, 1 ≤ x ∧ x ≤ 1000000000
  shape : (r.sh = 1 ∧ r.lo = [] ∧ r.hi = [] ∧ r.rad = 0) ∨ (r.sh = 2 ∧ r.rad = 0 ∧ vok r.lo ∧ vok r.hi ∧ (r.lo.length : Int) = d ∧ (r.hi.length : Int) = d ∧ ∀ i : Nat, (i : Int) < d → r.lo.getD i 0 ≤ r.hi.getD i 0) ∨
    (r.sh = 3 ∧ r.hi = [] ∧ vok r.lo ∧ (r.lo.length : Int) = d ∧ Dok r.rad)

/-- A vector that lies in a region. -/
def Inside (r : Rgn) (v : List Int) : Prop := (r.sh = 2 → ∀ i : Nat, i < v.length → r.lo.getD i 0 ≤ v.getD i 0 ∧ v.getD i 0 ≤ r.hi.getD i 0) ∧ (r.sh = 3 → sqTo r.lo v r.lo.length ≤ r.rad)

theorem spec.theodoliteref03_ids {s : Sl} {l : List Int} {u : H} {K : Bool → H → Prop} (hs : Ints u s l) (hr : Rise l) (hid : ∀ x ∈ l, 1 ≤ x ∧ x ≤ 1000000000) (h : K true u) : C.theodoliteref03_ids s u K := by
  have hmx := hs.max
  apply vc.theodoliteref03_ids
  refine ⟨fun _ i v => v = u ∧ 0 ≤ i, fun _ i _ => s.n - i.toNat, ⟨rfl, by omega⟩, ?_⟩
  rintro _ i v ⟨rfl, i0⟩
  refine ⟨fun hi => ?_, fun _ => h⟩
  intro K5 hK5
  have next : ∀ b, K5 b v := fun b => hK5 _ _ ⟨⟨by omega, by omega⟩, ⟨rfl, by omega⟩, by dsimp only; omega⟩
  obtain ⟨p, hp, x, hx, c0⟩ := hs.get i0 hi
  have hxid := hid x (List.mem_of_getElem? hx)
  refine ⟨p, hp, ⟨i0, hi⟩, _, c0, spec.theodoliteref03_Id ?_⟩
  rw [decide_eq_true hxid]
  refine ⟨fun hb => absurd rfl hb, fun _ => ⟨fun hpos => ?_, fun _ => ⟨next _, next _⟩⟩⟩
  obtain ⟨p', hp', y, hy, d0⟩ := hs.get (x := i - 1) (by omega) (by omega)
  have hlt' : y < x := by
    obtain ⟨h1, e1⟩ := List.getElem?_eq_some_iff.1 hx
    obtain ⟨h2, e2⟩ := List.getElem?_eq_some_iff.1 hy
    have := List.pairwise_iff_getElem.1 hr _ _ h2 h1 (by omega)
    rw [e1, e2] at this
    exact this
  exact ⟨⟨by omega, by omega⟩, p', hp', ⟨by omega, by omega⟩, p, hp, ⟨i0, hi⟩, ⟨_, d0, _, c0, fun h => by omega, fun _ => next _⟩, ⟨_, c0, _, d0, fun h => by omega, fun _ => next _⟩⟩

theorem hiW0 : hiW 0 = 0 := by decide
theorem loW0 : loW 0 = 0 := by decide

theorem spec.theodoliteref03_form {r : Rgn} {d : Int} {u : H} {K : Bool → H → Prop} (h1 : Ints u r.ls r.lo) (h2 : Ints u r.hs r.hi) (hr : RegOk r d) (h : K true u) : C.theodoliteref03_form r.sh r.ls r.hs (hiW r.rad) (loW r.rad) r.is u K := by
  have n1 := h1.len
  have n2 := h2.len
  apply vc.theodoliteref03_form
  rcases hr.shape with ⟨e, e1, e2, e3⟩ | ⟨e, e3, _⟩ | ⟨e, e2, _⟩
  · rw [e3, hiW0, loW0]
    refine ⟨fun _ => ⟨fun _ => ⟨fun _ => ?_, fun hne => absurd (by rw [n2, e2]; rfl) hne⟩, fun hne => absurd (by rw [n1, e1]; rfl) hne⟩, fun hne => absurd e hne⟩
    rw [decide_eq_true (And.intro rfl rfl)]
    exact h
  · rw [e3, hiW0, loW0]
    refine ⟨fun h => by omega, fun _ => ⟨fun _ => ?_, fun hne => absurd e hne⟩⟩
    rw [decide_eq_true (And.intro rfl rfl)]
    exact h
  · refine ⟨fun h => by omega, fun _ => ⟨fun h => by omega, fun _ => ⟨fun _ => ?_, fun hne => absurd e hne⟩⟩⟩
    rw [decide_eq_true (show (r.hs.n : Int) = 0 by rw [n2, e2]; rfl)]
    exact h

theorem spec.theodoliteref03_CheckRegion {r : Rgn} {d : Int} {u : H} {K : Int → H → Prop} (h1 : Ints u r.ls r.lo) (h2 : Ints u r.hs r.hi) (h3 : Ints u r.is r.ids) (hr : RegOk r d) (h : K 0 u) : C.theodoliteref03_CheckRegion r.sh r.ls r.hs (hiW r.rad) (loW r.rad) r.is d u K := by
  have hd := hr.dim
  have n1 := h1.len
  have n2 := h2.len
  apply vc.theodoliteref03_CheckRegion
  intro K0 hK0
  refine ⟨fun h => by omega, fun _ => ⟨fun h => by omega, fun _ => hK0 _ _ ?_⟩⟩
  clear hK0 K0
  intro K3 hK3
  refine spec.theodoliteref03_form h1 h2 hr ⟨fun hb => absurd rfl hb, fun _ => spec.theodoliteref03_ids h3 hr.ids hr.id ⟨fun hb => absurd rfl hb, fun _ => hK3 _ _ ?_⟩⟩
  clear hK3 K3
  have check : ∀ {v : List Int}, vok v → (v.length : Int) = d → vcheck v d = 0 := fun hv hl => by rw [← hl]; exact ok_vcheck hv (by omega)
  rcases hr.shape with ⟨e, e1, e2, e3⟩ | ⟨e, e3, v1, v2, l1, l2, hle⟩ | ⟨e, e2, v1, l1, _⟩
  · exact ⟨fun _ => h, fun hne => absurd e hne⟩
  · refine ⟨fun h => by omega, fun _ => spec.theodoliteref03_Check h1 ?_⟩
    rw [check v1 l1]
    intro K8 hK8
    refine ⟨fun hne => absurd rfl hne, fun _ => ⟨fun h => by omega, fun _ => hK8 _ _ (spec.theodoliteref03_Check h2 ?_)⟩⟩
    rw [check v2 l2]
    refine ⟨fun hne => absurd rfl hne, fun _ => ⟨fun _ i v => v = u ∧ 0 ≤ i, fun _ i _ => d.toNat - i.toNat, ⟨rfl, by omega⟩, ?_⟩⟩
    rintro _ i v ⟨rfl, i0⟩
    refine ⟨fun hi => ?_, fun _ => h⟩
    obtain ⟨p, hp, c0⟩ := h1.at i0 (show i < (r.ls.n : Int) by omega)
    obtain ⟨p', hp', d0⟩ := h2.at i0 (show i < (r.hs.n : Int) by omega)
    have := hle i.toNat (by omega)
    exact ⟨p, hp, ⟨i0, by omega⟩, _, c0, p', hp', ⟨i0, by omega⟩, _, d0, fun h => by omega, fun _ => ⟨⟨by omega, by omega⟩, ⟨rfl, by omega⟩, by dsimp only; omega⟩⟩
  · refine ⟨fun h => by omega, fun _ => spec.theodoliteref03_Check h1 ?_⟩
    rw [check v1 l1]
    intro K8 hK8
    exact ⟨fun hne => absurd rfl hne, fun _ => ⟨fun _ => h, fun hne => absurd e hne⟩⟩

theorem spec.theodoliteref03_In {r : Rgn} {d : Int} {t : Sl} {v : List Int} {u : H} {K : Bool → H → Prop} (h1 : Ints u r.ls r.lo) (h2 : Ints u r.hs r.hi) (hr : RegOk r d) (hv : Ints u t v) (hvo : vok v) (hl : (v.length : Int) = d) (hin : Inside r v) (h : K true u) :
    C.theodoliteref03_In r.sh r.ls r.hs (hiW r.rad) (loW r.rad) r.is t u K := by
  have n1 := h1.len
  have n2 := h2.len
  have nv := hv.len
  have hd := hr.dim
  apply vc.theodoliteref03_In
  rcases hr.shape with ⟨e, _⟩ | ⟨e, _, v1, v2, l1, l2, hle⟩ | ⟨e, e2, v1, l1, hrad⟩
  · exact ⟨fun h => by omega, fun _ => ⟨fun h => by omega, fun _ => h⟩⟩
  · refine ⟨fun _ => ⟨fun _ i w => w = u ∧ 0 ≤ i, fun _ i _ => t.n - i.toNat, ⟨rfl, by omega⟩, ?_⟩, fun hne => absurd e hne⟩
    rintro _ i w ⟨rfl, i0⟩
    refine ⟨fun hi => ?_, fun _ => h⟩
    intro K5 hK5
    obtain ⟨p, hp, c0⟩ := hv.at i0 hi
    obtain ⟨p1, hp1, c1⟩ := h1.at i0 (show i < (r.ls.n : Int) by omega)
    obtain ⟨p2, hp2, c2⟩ := h2.at i0 (show i < (r.hs.n : Int) by omega)
    have := hin.1 e i.toNat (by omega)
    exact ⟨p, hp, ⟨i0, hi⟩, _, c0, p1, hp1, ⟨i0, by omega⟩, _, c1, fun h => by omega, fun _ => ⟨p, hp, ⟨i0, hi⟩, _, c0, p2, hp2, ⟨i0, by omega⟩, _, c2, fun h => by omega, fun _ => hK5 _ _ ⟨⟨by omega, by omega⟩, ⟨rfl, by omega⟩, by dsimp only; omega⟩⟩⟩
  · refine ⟨fun h => by omega, fun _ => ⟨fun _ => ?_, fun hne => absurd e hne⟩⟩
    refine spec.theodoliteref03_Far h1 hv v1 hvo (by omega) fun x y hx hy hw => ⟨H.le.refl u, spec.theodoliteref01_Less (hiU hrad) (loU _) hx hy ?_⟩
    have hf : decide (wv (hiW r.rad) (loW r.rad) < wv x y) = false := by
      have := hin.2 e
      rw [wv_hl, hw]
      simpa using this
    rw [hf]
    exact h

theorem spec.theodoliteref05_region {s : Sl} {l : List Rw} {r : Rgn} {d : Int} {u : H} {K : Bool → H → Prop} (hs : Rws u s l) (hl : Rok l d) (h1 : Ints u r.ls r.lo) (h2 : Ints u r.hs r.hi) (h3 : Ints u r.is r.ids) (hr : RegOk r d) (hne : r.ids ≠ [])
    (hin : ∀ x ∈ r.ids, ∃ w ∈ l, w.id = x ∧ Inside r w.v) (h : K true u) : C.theodoliteref05_region s r.sh r.ls r.hs (hiW r.rad) (loW r.rad) r.is d u K := by
  have n3 := h3.len
  have hn := hs.len
  have m3 := h3.max
  apply vc.theodoliteref05_region
  intro K0 hK0
  refine spec.theodoliteref03_CheckRegion h1 h2 h3 hr ⟨fun hb => absurd rfl hb, fun _ => ⟨fun h0 => ?_, fun _ => hK0 _ _ ?_⟩⟩
  · exact absurd (List.eq_nil_of_length_eq_zero (by omega)) hne
  refine ⟨fun _ i v => v = u ∧ 0 ≤ i, fun _ i _ => r.is.n - i.toNat, ⟨rfl, by omega⟩, ?_⟩
  rintro _ i v ⟨rfl, i0⟩
  refine ⟨fun hi => ?_, fun _ => h⟩
  obtain ⟨p, hp, x, hx, c0⟩ := h3.get i0 hi
  obtain ⟨w, hw, hwx, hwin⟩ := hin x (List.mem_of_getElem? hx)
  refine ⟨p, hp, ⟨i0, hi⟩, _, c0, spec.theodoliteref05_find hs (fun j w' hj hid => ⟨fun h => by omega, fun _ => ?_⟩) fun hno => absurd hwx (hno w hw)⟩
  have hj' := (List.getElem?_eq_some_iff.1 hj).1
  have hww : w' = w := by
    obtain ⟨k, hk, e⟩ := List.getElem_of_mem hw
    have e' := (List.getElem?_eq_some_iff.1 hj).2
    have hjk : j = k := by
      have hnd := hl.nodup
      rcases Nat.lt_trichotomy j k with hlt' | heq | hgt
      · have := List.pairwise_iff_getElem.1 hnd j k (by simpa using hj') (by simpa using hk) hlt'
        simp only [List.getElem_map, e, e'] at this
        exact absurd (by rw [hid, hwx]) this
      · exact heq
      · have := List.pairwise_iff_getElem.1 hnd k j (by simpa using hk) (by simpa using hj') hgt
        simp only [List.getElem_map, e, e'] at this
        exact absurd (by rw [hid, hwx]) this
    subst hjk
    rw [← e', ← e]
  subst hww
  obtain ⟨pa, hpa, q, hq, _, d1, dv⟩ := hs.at (x := (j : Int)) (by omega) (by omega)
  rw [show ((j : Int)).toNat = j by omega] at hq d1
  rw [hj] at hq
  cases hq
  have hv := hl.v w' hw
  refine ⟨pa, hpa, ⟨by omega, by omega⟩, w'.s, by rw [show ((j : Int)).toNat = j by omega]; exact d1, spec.theodoliteref03_In h1 h2 hr dv hv.2 hv.1 hwin ⟨fun hb => absurd rfl hb, fun _ => ⟨⟨by omega, by omega⟩, ⟨rfl, by omega⟩, by dsimp only; omega⟩⟩⟩

/-! ### sound -/

/-- An answer as it is told: hits, ids that were seen, regions. -/
structure AnsR (u : H) (sh ss sr : Sl) (hits : List Hit) (seen : List Int) (rest : List Rgn) : Prop where
  h : Hts u sh hits
  s : Ints u ss seen
  r : Rgs u sr rest

theorem AnsR.mono {u u' : H} {sh ss sr : Sl} {hits : List Hit} {seen : List Int} {rest : List Rgn} (h : AnsR u sh ss sr hits seen rest) (k : u.le u') : AnsR u' sh ss sr hits seen rest := ⟨h.h.mono k, h.s.mono k, h.r.mono k⟩

/-- What a sound answer is, of rows. -/
structure Sound (l : List Rw) (q : List Int) (k : Int) (hits : List Hit) (seen : List Int) (rest : List Rgn) : Prop where
  rise : Rise seen
  reg : ∀ r ∈ rest, RegOk r q.length ∧ r.ids ≠ [] ∧ ∀ x ∈ r.ids, ∃ w ∈ l, w.id = x ∧ Inside r w.v
  all : (seen ++ rest.flatMap (·.ids)).Perm (l.map (·.id))
  first : ∀ m : List Rw, (∀ r ∈ m, r ∈ l) → m.map (·.id) = seen → hits = topk k.toNat (m.map (hitOf q))

theorem build_row1 (x : Int) (s : Sl) : buildOf Tryz.prog 22 1 #[(0, .agg #[.int .i64 x, .slice s.a s.n s.c])] = some (43, [.int .i64 x, .slice s.a s.n s.c]) := by kernel_rfl

theorem OwnF.rws {u0 u : H} {e : Nat} {s : Sl} {m l : List Rw} {t : Sl} (h : OwnF u0 u e 2 s (m.flatMap encR)) (hl : Rws u t l) (hm : ∀ r ∈ m, r ∈ l) : Rws u s m := ⟨h.own.seg, fun r hr => hl.2 r (hm r hr)⟩

theorem spec.theodoliteref05_Sound {s t sh ss sr : Sl} {l : List Rw} {q : List Int} {k : Int} {hits : List Hit} {seen : List Int} {rest : List Rgn} {u : H} {K : Bool → H → Prop} (hs : Rws u s l) (ht : Ints u t q) (hq : Qok l q) (k1 : 0 ≤ k)
    (ha : AnsR u sh ss sr hits seen rest) (hS : Sound l q k hits seen rest) (h : K true u) : C.theodoliteref05_Sound s t k sh ss sr u K := by
  have hn := hs.len
  have hqn := ht.len
  have nS := ha.s.len
  have nR := ha.r.len
  have nH := ha.h.len
  have mR := ha.r.max
  have hlen := hq.rows.len
  have htot : seen.length + (rest.flatMap (·.ids)).length = l.length := by have := hS.all.length_eq; simpa using this
  have hseen : ∀ x ∈ seen, ∃ r ∈ l, r.id = x := fun x hx => by
    have := hS.all.mem_iff.1 (List.mem_append_left _ hx)
    obtain ⟨r, hr, e⟩ := List.mem_map.1 this
    exact ⟨r, hr, e⟩
  refine ClT.forget (ss := [.one .bool]) ?_
  apply vc.theodoliteref05_Sound
  refine ⟨fun _ s3 s4 i v => 0 ≤ i ∧ i ≤ (ss.n : Int) ∧ Ints v s3 (sortI (seen.take i.toNat)) ∧ ∃ m : List Rw, OwnF u v 43 2 s4 (m.flatMap encR) ∧ (∀ r ∈ m, r ∈ l) ∧ m.map (·.id) = seen.take i.toNat, fun _ _ _ i _ => ss.n - i.toNat,
    ⟨by omega, by omega, by simpa [sortI_nil] using Ints.nil u, [], OwnF.nil (H.le.refl u) _ _, fun r hr => (by cases hr), by simp⟩, ?_⟩
  rintro b s3 s4 i v ⟨i0, i1, hall, m, ho, hml, hmid⟩
  change Ints v s3 _ at hall
  change OwnF u v _ 2 s4 _ at ho
  have hmlen : m.length = i.toNat := by have := congrArg List.length hmid; simp at this; omega
  refine ⟨fun hi => ?_, fun hi => ?_⟩
  · obtain ⟨p, hp, x, hx, c0⟩ := (ha.s.mono ho.le).get i0 hi
    obtain ⟨w, hw, hwx⟩ := hseen x (List.mem_of_getElem? hx)
    refine ⟨p, hp, ⟨i0, hi⟩, _, c0, spec.theodoliteref05_find (hs.mono ho.le) (fun j r hj hid => ?_) fun hno => absurd hwx (hno w hw)⟩
    have hj' := (List.getElem?_eq_some_iff.1 hj).1
    intro K11 hK11
    have go : ∀ b, K11 b v := by
      intro b
      refine hK11 _ _ ⟨p, hp, ⟨i0, hi⟩, _, c0, spec.theodoliteref03_With hall (by simp; omega) fun s16 u17 h16 => ?_⟩
      obtain ⟨pa, hpa, r', hr', d0, d1, dv⟩ := (hs.mono (ho.le.trans h16.le)).at (x := (j : Int)) (by omega) (by omega)
      have ej : ((j : Int)).toNat = j := by omega
      rw [ej] at hr' d0 d1
      rw [hj] at hr'
      cases hr'
      have hsn := flat_n encR_len (by decide) ho.own.seg
      refine ⟨pa, hpa, ⟨by omega, by omega⟩, _, by rw [ej]; exact d0, r.s, by rw [ej]; exact d1, sem_push' tRows (build_row1 _ _) (by decide) rfl (by simp [Value.oneCell']) (ho.mono h16.le) (by omega) (by omega) fun s23 u24 h23 n23 hel hbl _ => ⟨⟨by omega, by omega⟩, ⟨by omega, by omega, ?_, m ++ [r], ?_, ?_, ?_⟩, by dsimp only; omega⟩⟩
      · have h16' : OwnF v u17 3 1 s16 ((sortI (x :: seen.take i.toNat)).flatMap encI) := h16
        have hI : Own u24 3 1 s16 ((sortI (x :: seen.take i.toNat)).flatMap encI) := h16'.own.le fun b o hb hu => hel b o hu fun e => own_known ho e (h16'.fresh b hb)
        have hI2 : Ints u24 s16 (sortI (x :: seen.take i.toNat)) := by
          have := hI.seg
          rw [flatI] at this
          exact this
        rw [show (i + 1).toNat = i.toNat + 1 by omega, List.take_add_one, hx]
        have e : sortI (seen.take i.toNat ++ (some x).toList) = sortI (x :: seen.take i.toNat) := sortI_eq (List.perm_append_singleton _ _)
        rw [e]
        exact hI2
      · rw [List.flatMap_append]
        simpa [encR] using h23
      · intro r' hr'
        rcases List.mem_append.1 hr' with hr' | hr'
        · exact hml r' hr'
        · obtain rfl : r' = r := by simpa using hr'
          exact List.mem_of_getElem? hj
      · rw [show (i + 1).toNat = i.toNat + 1 by omega, List.take_add_one, hx, List.map_append, hmid, ← hid]
        rfl
    refine ⟨fun h => by omega, fun _ => ⟨fun hpos => ?_, fun _ => go _⟩⟩
    obtain ⟨p', hp', y, hy, d0⟩ := (ha.s.mono ho.le).get (x := i - 1) (by omega) (by omega)
    have hlt' : y < x := by
      obtain ⟨h1, e1⟩ := List.getElem?_eq_some_iff.1 hx
      obtain ⟨h2, e2⟩ := List.getElem?_eq_some_iff.1 hy
      have := List.pairwise_iff_getElem.1 hS.rise _ _ h2 h1 (by omega)
      rw [e1, e2] at this
      exact this
    exact ⟨⟨by omega, by omega⟩, p', hp', ⟨by omega, by omega⟩, _, d0, p, hp, ⟨i0, hi⟩, _, c0, fun h => by omega, fun _ => go _⟩
  -- all are seen
  rw [List.take_of_length_le (by omega)] at hall hmid
  have hsub : ∀ i, ((rest.take i).flatMap (·.ids)).length ≤ 512 := fun i => by
    have := congrArg (List.flatMap (·.ids)) (List.take_append_drop i rest)
    rw [List.flatMap_append] at this
    have := congrArg List.length this
    rw [List.length_append] at this
    omega
  refine ⟨fun _ s32 i w => 0 ≤ i ∧ i ≤ (sr.n : Int) ∧ v.le w ∧ Ints w s32 (sortI (seen ++ (rest.take i.toNat).flatMap (·.ids))), fun _ _ i _ => sr.n - i.toNat, ⟨by omega, by omega, H.le.refl v, by simpa using hall⟩, ?_⟩
  rintro _ s32 i w ⟨i0, i1, hvw, hall2⟩
  change Ints w s32 _ at hall2
  have huw := ho.le.trans hvw
  refine ⟨fun hi => ?_, fun hi => ?_⟩
  · obtain ⟨p, hp, g, hg, c0, c1, c2, c3, c4, c5⟩ := (ha.r.mono huw).at i0 hi
    have hgm := List.mem_of_getElem? hg
    obtain ⟨r1, r2, r3⟩ := (ha.r.mono huw).2 g hgm
    obtain ⟨gok, gne, gin⟩ := hS.reg g hgm
    refine ⟨p, hp, ⟨i0, hi⟩, _, c0, _, c1, _, c2, _, c3, _, c4, _, c5, ?_⟩
    rw [hqn]
    refine spec.theodoliteref05_region (hs.mono huw) hq.rows r1 r2 r3 gok gne gin ⟨fun hb => absurd rfl hb, fun _ => ?_⟩
    have ngi := r3.len
    have hg1 : (rest.take (i.toNat + 1)).flatMap (·.ids) = (rest.take i.toNat).flatMap (·.ids) ++ g.ids := by
      rw [List.take_add_one, hg, List.flatMap_append]; simp
    have hgl := hsub (i.toNat + 1)
    rw [hg1, List.length_append] at hgl
    refine ⟨fun s46 j w' => 0 ≤ j ∧ j ≤ (g.is.n : Int) ∧ v.le w' ∧ Ints w' s46 (sortI (seen ++ (rest.take i.toNat).flatMap (·.ids) ++ g.ids.take j.toNat)), fun _ j _ => g.is.n - j.toNat, ⟨by omega, by omega, hvw, by simpa using hall2⟩, ?_⟩
    rintro s46 j w' ⟨j0, j1, hvw', hall3⟩
    change Ints w' s46 _ at hall3
    have huw' := ho.le.trans hvw'
    obtain ⟨p', hp', g', hg', _, _, _, _, _, d5⟩ := (ha.r.mono huw').at i0 hi
    rw [hg] at hg'
    cases hg'
    refine ⟨p', hp', ⟨i0, hi⟩, g.is, d5, fun hj => ?_, fun hj => ⟨⟨by omega, by omega⟩, ⟨by omega, by omega, hvw', ?_⟩, by dsimp only; omega⟩⟩
    · obtain ⟨pi, hpi, x, hx, e0⟩ := ((ha.r.mono huw').2 g hgm).2.2.get j0 hj
      refine ⟨p', hp', ⟨i0, hi⟩, g.is, d5, pi, hpi, ⟨j0, hj⟩, _, e0, spec.theodoliteref03_With hall3 (by rw [List.length_append, List.length_append, List.length_take]; omega) fun s55 u56 h55 => ⟨⟨by omega, by omega⟩, ⟨by omega, by omega, hvw'.trans h55.le, ?_⟩, by dsimp only; omega⟩⟩
      rw [show (j + 1).toNat = j.toNat + 1 by omega, List.take_add_one, hx]
      have e : sortI (seen ++ (rest.take i.toNat).flatMap (·.ids) ++ (g.ids.take j.toNat ++ (some x).toList)) = sortI (x :: (seen ++ (rest.take i.toNat).flatMap (·.ids) ++ g.ids.take j.toNat)) := by
        rw [← List.append_assoc]
        exact sortI_eq (List.perm_append_singleton _ _)
      rw [e]
      exact h55.ints
    · rw [show (i + 1).toNat = i.toNat + 1 by omega, hg1, ← List.append_assoc]
      rw [List.take_of_length_le (l := g.ids) (show g.ids.length ≤ j.toNat by omega)] at hall3
      exact hall3
  rw [List.take_of_length_le (by omega)] at hall2
  have hm2 := (ho.mono hvw).rws (hs.mono huw) hml
  refine spec.theodoliteref05_Hits hm2 (ht.mono huw) (fun r hr => ⟨(hq.rows.v r (hml r hr)).2, by have := (hq.rows.v r (hml r hr)).1; omega⟩) hq.vq (by omega) fun s57 u58 h57 => ?_
  refine spec.theodoliteref05_First h57.hts k1 fun s59 h59 => ?_
  have hfirst := hS.first m hml hmid
  have h59' : Hts u58 s59 hits := by rw [hfirst]; exact h59
  have n59 := h59'.len
  have hu58 := huw.trans h57.le
  have hH := ha.h.mono hu58
  refine ⟨fun hne => absurd (by rw [n59, nH]) hne, fun _ => ⟨fun _ i w' => w' = u58 ∧ 0 ≤ i, fun _ i _ => s59.n - i.toNat, ⟨rfl, by omega⟩, ?_⟩⟩
  rintro _ i w' ⟨rfl, i0⟩
  have hmx := h59'.max
  refine ⟨fun hi => ?_, fun hi => ?_⟩
  · obtain ⟨p, hp, x, hx, c0, c1, c2⟩ := h59'.at i0 hi
    obtain ⟨p', hp', y, hy, d0, d1, d2⟩ := hH.at i0 (show i < (sh.n : Int) by omega)
    rw [hx] at hy
    cases hy
    exact ⟨p, hp, ⟨i0, hi⟩, _, c0, _, c1, _, c2, p', hp', ⟨i0, by omega⟩, _, d0, _, d1, _, d2, fun hne => absurd ⟨rfl, rfl, rfl⟩ hne, fun _ => ⟨⟨by omega, by omega⟩, ⟨rfl, by omega⟩, by dsimp only; omega⟩⟩
  · refine spec.theodoliteref03_Ids (hs.mono hu58) (by omega) fun s74 u75 l75 h74 => spec.theodoliteref03_Ints (hall2.mono (h57.le.trans l75)) h74 ?_
    rw [decide_eq_true (sortI_eq hS.all)]
    exact ⟨hu58.trans l75, h⟩

theorem spec.theodoliteref05_Obeys {s t sh ss sr : Sl} {l : List Rw} {q : List Int} {k b : Int} {hits : List Hit} {seen : List Int} {rest : List Rgn} {u : H} {K : Bool → H → Prop} (hs : Rws u s l) (ht : Ints u t q) (hq : Qok l q) (k1 : 0 ≤ k)
    (ha : AnsR u sh ss sr hits seen rest) (hS : Sound l q k hits seen rest) (hb : (seen.length : Int) ≤ b) (hb2 : (seen.length : Int) = b ∨ seen.length = l.length) (h : K true u) : C.theodoliteref05_Obeys s t k b sh ss sr u K := by
  have hn := hs.len
  have nS := ha.s.len
  apply vc.theodoliteref05_Obeys
  intro K0 hK0
  refine spec.theodoliteref05_Sound hs ht hq k1 ha hS ⟨fun hb => absurd rfl hb, fun _ => ⟨fun h => by omega, fun _ => hK0 _ _ ⟨fun _ => h, fun h1 => ⟨fun _ => h, fun h2 => ?_⟩⟩⟩⟩
  omega

end Go.Proofs.YtpbelkpfljhjlaaGreatDoor

/- VcSpoil -/
namespace Go.Proofs.YtpbelkpfljhjlaaGreatDoor

/-! ### slices that share no block -/

def Far (a b : Sl) : Prop := ∀ g, a.blk = some g → b.blk ≠ some g
theorem Far.symm {a b : Sl} (h : Far a b) : Far b a := fun g hg hg2 => h g hg2 hg

/-- What lies in no block of these stays. -/
def Keep (D : List Sl) (u v : H) : Prop := ∀ b o, u b = some o → (∀ s ∈ D, s.blk ≠ some b) → v b = some o

theorem Keep.refl (D : List Sl) (u : H) : Keep D u u := fun _ _ h _ => h
theorem Keep.trans {D : List Sl} {u v w : H} (h : Keep D u v) (k : Keep D v w) : Keep D u w := fun b o hb hd => k b o (h b o hb hd) hd
theorem Else.keep {D : List Sl} {u v : H} {s : Sl} (h : Else u v s) (hs : s ∈ D) : Keep D u v := fun b o hb hd => h b o hb (hd s hs)

theorem Keep.own {D : List Sl} {u0 u v : H} {e k : Nat} {t : Sl} {xs : List Value} (hk : Keep D u v) (h : OwnF u0 u e k t xs) (hf : ∀ s ∈ D, ∀ g, s.blk = some g → u0 g = none) (hd : ∀ s ∈ D, Far s t) : OwnF u0 v e k t xs :=
  ⟨h.own.le fun b o hb hu => hk b o hu fun s hs hg => hd s hs b hg hb, fun b o hb => hk b o (h.le b o hb) fun s hs hg => (by rw [hf s hs b hg] at hb; cases hb), h.fresh⟩

theorem OwnF.far {u0 u1 u v : H} {e k e' k' : Nat} {s t : Sl} {xs ys : List Value} (h : OwnF u0 u e k s xs) (hu : u.le u1) (h' : OwnF u1 v e' k' t ys) : Far s t := fun g hg hg2 => by
  have h1 := h'.fresh g hg2
  have h2 := own_known h hg
  cases hx : u g with
  | none => exact h2 hx
  | some o => rw [hu _ _ hx] at h1; cases h1

/-- The lists of a region. -/
def Rgn.sls (r : Rgn) : List Sl := [r.ls, r.hs, r.is]

structure Own3 (u0 u : H) (r : Rgn) : Prop where
  l : OwnF u0 u 3 1 r.ls (r.lo.flatMap encI)
  h : OwnF u0 u 3 1 r.hs (r.hi.flatMap encI)
  i : OwnF u0 u 3 1 r.is (r.ids.flatMap encI)

theorem Keep.own3 {D : List Sl} {u0 u v : H} {r : Rgn} (hk : Keep D u v) (h : Own3 u0 u r) (hf : ∀ s ∈ D, ∀ g, s.blk = some g → u0 g = none) (hd : ∀ s ∈ D, ∀ t ∈ r.sls, Far s t) : Own3 u0 v r :=
  ⟨hk.own h.l hf fun s hs => hd s hs _ (by simp [Rgn.sls]), hk.own h.h hf fun s hs => hd s hs _ (by simp [Rgn.sls]), hk.own h.i hf fun s hs => hd s hs _ (by simp [Rgn.sls])⟩

/-- All slices of an answer. -/
def ansS (sh ss sr : Sl) (rest : List Rgn) : List Sl := sh :: ss :: sr :: rest.flatMap Rgn.sls

/-- An answer of one's own. -/
structure AnsO (u0 u : H) (sh ss sr : Sl) (hits : List Hit) (seen : List Int) (rest : List Rgn) : Prop where
  h : OwnF u0 u 66 3 sh (hits.flatMap encH)
  s : OwnF u0 u 3 1 ss (seen.flatMap encI)
  r : OwnF u0 u 111 6 sr (rest.flatMap encG)
  g : ∀ r ∈ rest, Own3 u0 u r
  far : (ansS sh ss sr rest).Pairwise Far

theorem AnsO.fresh {u0 u : H} {sh ss sr : Sl} {hits : List Hit} {seen : List Int} {rest : List Rgn} (h : AnsO u0 u sh ss sr hits seen rest) : ∀ s ∈ ansS sh ss sr rest, ∀ g, s.blk = some g → u0 g = none := by
  intro s hs
  simp only [ansS, List.mem_cons, List.mem_flatMap] at hs
  rcases hs with rfl | rfl | rfl | ⟨r, hr, hs⟩
  · exact h.h.fresh
  · exact h.s.fresh
  · exact h.r.fresh
  · have := h.g r hr
    simp only [Rgn.sls, List.mem_cons, List.not_mem_nil, or_false] at hs
    rcases hs with rfl | rfl | rfl
    · exact this.l.fresh
    · exact this.h.fresh
    · exact this.i.fresh

theorem AnsO.known {u0 u : H} {sh ss sr : Sl} {hits : List Hit} {seen : List Int} {rest : List Rgn} (h : AnsO u0 u sh ss sr hits seen rest) : ∀ s ∈ ansS sh ss sr rest, ∀ g, s.blk = some g → u g ≠ none := by
  intro s hs g hg
  simp only [ansS, List.mem_cons, List.mem_flatMap] at hs
  rcases hs with rfl | rfl | rfl | ⟨r, hr, hs⟩
  · exact own_known h.h hg
  · exact own_known h.s hg
  · exact own_known h.r hg
  · have := h.g r hr
    simp only [Rgn.sls, List.mem_cons, List.not_mem_nil, or_false] at hs
    rcases hs with rfl | rfl | rfl
    · exact own_known this.l hg
    · exact own_known this.h hg
    · exact own_known this.i hg

theorem AnsO.mono {u0 u u' : H} {sh ss sr : Sl} {hits : List Hit} {seen : List Int} {rest : List Rgn} (h : AnsO u0 u sh ss sr hits seen rest) (k : u.le u') : AnsO u0 u' sh ss sr hits seen rest :=
  ⟨h.h.mono k, h.s.mono k, h.r.mono k, fun r hr => ⟨(h.g r hr).l.mono k, (h.g r hr).h.mono k, (h.g r hr).i.mono k⟩, h.far⟩

theorem AnsO.le {u0 u : H} {sh ss sr : Sl} {hits : List Hit} {seen : List Int} {rest : List Rgn} (h : AnsO u0 u sh ss sr hits seen rest) : u0.le u := h.h.le

theorem AnsO.read {u0 u : H} {sh ss sr : Sl} {hits : List Hit} {seen : List Int} {rest : List Rgn} (h : AnsO u0 u sh ss sr hits seen rest) : AnsR u sh ss sr hits seen rest :=
  ⟨h.h.hts, h.s.ints, h.r.own.seg, fun r hr => ⟨(h.g r hr).l.ints, (h.g r hr).h.ints, (h.g r hr).i.ints⟩⟩

/-- Where what was new stays, the answer stays. -/
theorem AnsO.else {u0 u u' : H} {sh ss sr : Sl} {hits : List Hit} {seen : List Int} {rest : List Rgn} (h : AnsO u0 u sh ss sr hits seen rest) (he : ∀ b o, u0 b = none → u b = some o → u' b = some o) : AnsR u' sh ss sr hits seen rest := by
  have one : ∀ {e k : Nat} {s : Sl} {xs : List Value}, OwnF u0 u e k s xs → Seg u' s k xs := fun ho => (ho.own.le (u' := u') fun b o hb hu => he b o (ho.fresh b hb) hu).seg
  have ints : ∀ {e : Nat} {s : Sl} {l : List Int}, OwnF u0 u e 1 s (l.flatMap encI) → Ints u' s l := fun ho => by
    have := one ho
    rw [flatI] at this
    exact this
  exact ⟨one h.h, ints h.s, one h.r, fun r hr => ⟨ints (h.g r hr).l, ints (h.g r hr).h, ints (h.g r hr).i⟩⟩

/-! ### two answers alike -/

/-- What a region tells. -/
def Rgn.core (r : Rgn) : Int × Int × List Int × List Int × List Int := (r.sh, r.rad, r.lo, r.hi, r.ids)

theorem spec.theodolitekeep_Region {r r' : Rgn} {u : H} {K : Bool → H → Prop} (h1 : Ints u r.ls r.lo) (h2 : Ints u r.hs r.hi) (h3 : Ints u r.is r.ids) (g1 : Ints u r'.ls r'.lo) (g2 : Ints u r'.hs r'.hi) (g3 : Ints u r'.is r'.ids) (e : r.core = r'.core) (h : K true u) :
    C.theodolitekeep_Region r.sh r.ls r.hs (hiW r.rad) (loW r.rad) r.is r'.sh r'.ls r'.hs (hiW r'.rad) (loW r'.rad) r'.is u K := by
  simp only [Rgn.core, Prod.mk.injEq] at e
  obtain ⟨e1, e2, e3, e4, e5⟩ := e
  apply vc.theodolitekeep_Region
  refine ⟨fun _ => ⟨fun _ => spec.theodolitekeep_Ints h1 g1 ?_, fun hne => absurd ⟨by rw [e2], by rw [e2]⟩ hne⟩, fun hne => absurd e1 hne⟩
  rw [decide_eq_true e3]
  refine ⟨fun _ => spec.theodolitekeep_Ints h2 g2 ?_, fun hb => by cases hb⟩
  rw [decide_eq_true e4]
  refine ⟨fun _ => spec.theodolitekeep_Ints h3 g3 ?_, fun hb => by cases hb⟩
  rw [decide_eq_true e5]
  exact h

theorem spec.theodolitekeep_Answer {sh ss sr sh' ss' sr' : Sl} {hits : List Hit} {seen : List Int} {rest rest' : List Rgn} {u : H} {K : Bool → H → Prop} (ha : AnsR u sh ss sr hits seen rest) (hb : AnsR u sh' ss' sr' hits seen rest') (e : rest.map Rgn.core = rest'.map Rgn.core)
    (h : K true u) : C.theodolitekeep_Answer sh ss sr sh' ss' sr' u K := by
  have na := ha.r.len
  have nb := hb.r.len
  have ma := ha.r.max
  have hlen : rest.length = rest'.length := by simpa using congrArg List.length e
  apply vc.theodolitekeep_Answer
  intro K0 hK0
  refine spec.theodolitekeep_Hits ha.h hb.h ?_
  rw [decide_eq_true rfl]
  refine ⟨fun hb => absurd rfl hb, fun _ => spec.theodolitekeep_Ints ha.s hb.s ?_⟩
  rw [decide_eq_true rfl]
  refine ⟨fun hb => absurd rfl hb, fun _ => ⟨fun hne => absurd (by rw [na, nb, hlen]) hne, fun _ => hK0 _ _ ?_⟩⟩
  refine ⟨fun _ i v => v = u ∧ 0 ≤ i, fun _ i _ => sr.n - i.toNat, ⟨rfl, by omega⟩, ?_⟩
  rintro _ i v ⟨rfl, i0⟩
  refine ⟨fun hi => ?_, fun _ => h⟩
  obtain ⟨p, hp, g, hg, c0, c1, c2, c3, c4, c5⟩ := ha.r.at i0 hi
  obtain ⟨p', hp', g', hg', d0, d1, d2, d3, d4, d5⟩ := hb.r.at i0 (show i < (sr'.n : Int) by omega)
  have hc : g.core = g'.core := by
    have h1 : (rest.map Rgn.core)[i.toNat]? = some g.core := by rw [List.getElem?_map, hg]; rfl
    rw [e, List.getElem?_map, hg'] at h1
    exact (Option.some.inj h1).symm
  obtain ⟨a1, a2, a3⟩ := ha.r.2 g (List.mem_of_getElem? hg)
  obtain ⟨b1, b2, b3⟩ := hb.r.2 g' (List.mem_of_getElem? hg')
  exact ⟨p, hp, ⟨i0, hi⟩, _, c0, _, c1, _, c2, _, c3, _, c4, _, c5, p', hp', ⟨i0, by omega⟩, _, d0, _, d1, _, d2, _, d3, _, d4, _, d5,
    spec.theodolitekeep_Region a1 a2 a3 b1 b2 b3 hc ⟨fun hb => absurd rfl hb, fun _ => ⟨⟨by omega, by omega⟩, ⟨rfl, by omega⟩, by dsimp only; omega⟩⟩⟩

/-! ### an answer written over -/

theorem take_drop_set {α : Type} {A l : List α} {i : Nat} {x y : α} (hA : A.length = i) (h : l[i]? = some x) : (A ++ l.drop i).set i y = (A ++ [y]) ++ l.drop (i + 1) ∧ (A ++ l.drop i)[i]? = some x := by
  obtain ⟨h1, h2⟩ := List.getElem?_eq_some_iff.1 h
  have hd : l.drop i = x :: l.drop (i + 1) := by rw [List.drop_eq_getElem_cons h1, h2]
  constructor
  · rw [hd, ← hA, List.set_append_right _ _ (Nat.le_refl _), Nat.sub_self, List.set_cons_zero]
    simp
  · rw [List.getElem?_append_right (by omega), hA, Nat.sub_self, hd]
    rfl

theorem spec.theodolitekeep_Spoil {sh ss sr : Sl} {hits : List Hit} {seen : List Int} {rest : List Rgn} {u0 u : H} {K : H → Prop} (ha : AnsO u0 u sh ss sr hits seen rest) (hco : ∀ r ∈ rest, (∀ x ∈ r.lo, coordOk x) ∧ ∀ x ∈ r.hi, coordOk x)
    (hK : ∀ u', u0.le u' → Keep (ansS sh ss sr rest) u u' → K u') : C.theodolitekeep_Spoil sh ss sr u K := by
  have mh := ha.read.h.max
  have ms := ha.read.s.max
  have mr := ha.read.r.max
  have nh := ha.read.h.len
  have ns := ha.read.s.len
  have nr := ha.read.r.len
  have hfr := ha.fresh
  obtain ⟨f1, f2⟩ := List.pairwise_cons.1 ha.far
  obtain ⟨f3, f4⟩ := List.pairwise_cons.1 f2
  obtain ⟨f5, f6⟩ := List.pairwise_cons.1 f4
  have inD : ∀ s, s ∈ ansS sh ss sr rest ↔ s = sh ∨ s = ss ∨ s = sr ∨ ∃ r ∈ rest, s ∈ r.sls := fun s => by simp [ansS, List.mem_flatMap]
  generalize hD : ansS sh ss sr rest = D at hK hfr inD
  apply vc.theodolitekeep_Spoil
  refine ⟨fun i v => 0 ≤ i ∧ Keep [sh] u v ∧ ∃ L : List Hit, L.length = hits.length ∧ OwnF u0 v 66 3 sh (L.flatMap encH), fun i _ => sh.n - i.toNat, ⟨by omega, Keep.refl _ _, _, rfl, ha.h⟩, ?_⟩
  rintro i v ⟨i0, hkv, L, hL, hov⟩
  refine ⟨fun hi => ?_, fun _ => ?_⟩
  · obtain ⟨p, hp, _⟩ := hov.hts.at i0 hi
    refine ⟨p, hp, ⟨i0, hi⟩, ?_⟩
    rw [show ([Value.int .i64 (-1), .int .u64 0, .int .u64 0] : List Value) = encH (-1, 0) from by simp [encH, hiW0, loW0]]
    exact OwnF.store encH_len hov (by decide) (i := i.toNat) (by omega) (y := (-1, 0)) (encH_one _) hp fun u' ho' he _ => ⟨⟨by omega, by omega⟩, ⟨by omega, hkv.trans (he.keep (by simp)), _, by rw [List.length_set]; exact hL, ho'⟩, by dsimp only; omega⟩
  -- what was seen
  have single : ∀ {s t : Sl}, Far s t → ∀ x ∈ [s], Far x t := fun h x hx => by
    obtain rfl : x = _ := by simpa using hx
    exact h
  have fresh1 : ∀ {s : Sl}, (∀ g, s.blk = some g → u0 g = none) → ∀ x ∈ [s], ∀ g, x.blk = some g → u0 g = none := fun h x hx => by
    obtain rfl : x = _ := by simpa using hx
    exact h
  have hs1 := hkv.own ha.s (fresh1 ha.h.fresh) (single (f1 ss (by simp)))
  have hr1 := hkv.own ha.r (fresh1 ha.h.fresh) (single (f1 sr (by simp)))
  have hg1 : ∀ r ∈ rest, Own3 u0 v r := fun r hr => hkv.own3 (ha.g r hr) (fresh1 ha.h.fresh) fun s hs t ht => single (f1 t (by simp only [List.mem_cons, List.mem_flatMap]; exact .inr (.inr ⟨r, hr, ht⟩))) s hs
  have hkD : Keep D u v := fun b o hb hd => hkv b o hb fun s hs => hd s ((inD s).2 (.inl (by simpa using hs)))
  clear hov hL L hkv
  refine ⟨fun i w => 0 ≤ i ∧ Keep [ss] v w ∧ ∃ L : List Int, L.length = seen.length ∧ OwnF u0 w 3 1 ss (L.flatMap encI), fun i _ => ss.n - i.toNat, ⟨by omega, Keep.refl _ _, _, rfl, hs1⟩, ?_⟩
  rintro j w ⟨j0, hkw, L, hL, how⟩
  refine ⟨fun hj => ?_, fun _ => ?_⟩
  · obtain ⟨p, hp, _⟩ := how.ints.at j0 hj
    exact ⟨p, hp, ⟨j0, hj⟩, OwnF.store encI_len how (by decide) (i := j.toNat) (by omega) (y := -1) (encI_one _) hp fun u' ho' he _ => ⟨⟨by omega, by omega⟩, ⟨by omega, hkw.trans (he.keep (by simp)), _, by rw [List.length_set]; exact hL, ho'⟩, by dsimp only; omega⟩⟩
  have hr2 := hkw.own hr1 (fresh1 ha.s.fresh) (single (f3 sr (by simp)))
  have hg2 : ∀ r ∈ rest, Own3 u0 w r := fun r hr => hkw.own3 (hg1 r hr) (fresh1 ha.s.fresh) fun s hs t ht => single (f3 t (by simp only [List.mem_cons, List.mem_flatMap]; exact .inr ⟨r, hr, ht⟩)) s hs
  have hkD2 : Keep D u w := hkD.trans fun b o hb hd => hkw b o hb fun s hs => hd s ((inD s).2 (.inr (.inl (by simpa using hs))))
  clear how hL L hkw hkD hg1 hr1 hs1
  -- what was left
  refine ⟨fun i z => 0 ≤ i ∧ i ≤ (sr.n : Int) ∧ Keep D u z ∧ (∃ Z : List Rgn, Z.length = i.toNat ∧ OwnF u0 z 111 6 sr ((Z ++ rest.drop i.toNat).flatMap encG)) ∧ ∀ r ∈ rest.drop i.toNat, Own3 u0 z r, fun i _ => sr.n - i.toNat,
    ⟨by omega, by omega, hkD2, ⟨[], rfl, by simpa using hr2⟩, by simpa using hg2⟩, ?_⟩
  clear hkD2 hg2 hr2
  rintro x z ⟨x0, x1, hkz, ⟨Z, hZ, hoz⟩, hgz⟩
  refine ⟨fun hx => ?_, fun _ => hK z hoz.le hkz⟩
  have hxl : x.toNat < rest.length := by omega
  obtain ⟨g, hg⟩ : ∃ g, rest[x.toNat]? = some g := ⟨_, List.getElem?_eq_getElem hxl⟩
  have hgm := List.mem_of_getElem? hg
  have hdrop : rest.drop x.toNat = g :: rest.drop (x.toNat + 1) := by
    rw [List.drop_eq_getElem_cons hxl, (List.getElem?_eq_some_iff.1 hg).2]
  obtain ⟨gl, gh, gi⟩ := hgz g (by rw [hdrop]; simp)
  have hgr : ∀ r ∈ rest.drop (x.toNat + 1), Own3 u0 z r := fun r hr => hgz r (by rw [hdrop]; simp [hr])
  obtain ⟨c1, c2⟩ := hco g hgm
  have nl := gl.ints.len
  have nhh := gh.ints.len
  have ni := gi.ints.len
  have ml := gl.ints.max
  have mhh := gh.ints.max
  have mi := gi.ints.max
  -- the blocks of this region, and of those behind it
  have fsub : (g.sls ++ (rest.drop (x.toNat + 1)).flatMap Rgn.sls).Pairwise Far := by
    have h1 : rest.flatMap Rgn.sls = (rest.take x.toNat).flatMap Rgn.sls ++ (rest.drop x.toNat).flatMap Rgn.sls := by rw [← List.flatMap_append, List.take_append_drop]
    rw [h1, hdrop, List.flatMap_cons] at f6
    exact (List.pairwise_append.1 f6).2.1
  obtain ⟨fg, _, fx⟩ := List.pairwise_append.1 fsub
  obtain ⟨fl, fg2⟩ := List.pairwise_cons.1 fg
  obtain ⟨fh, _⟩ := List.pairwise_cons.1 fg2
  have srg : ∀ t ∈ g.sls, Far sr t := fun t ht => f5 t (List.mem_flatMap.2 ⟨g, hgm, ht⟩)
  have srr : ∀ r ∈ rest.drop (x.toNat + 1), ∀ t ∈ r.sls, Far sr t := fun r hr t ht => f5 t (List.mem_flatMap.2 ⟨r, List.mem_of_mem_drop hr, ht⟩)
  have gr : ∀ s ∈ g.sls, ∀ r ∈ rest.drop (x.toNat + 1), ∀ t ∈ r.sls, Far s t := fun s hs r hr t ht => fx s hs t (List.mem_flatMap.2 ⟨r, hr, ht⟩)
  have gD : ∀ s ∈ g.sls, s ∈ D := fun s hs => (inD s).2 (.inr (.inr (.inr ⟨g, hgm, hs⟩)))
  have iZ : (Z ++ rest.drop x.toNat)[x.toNat]? = some g := (take_drop_set (y := g) hZ hg).2
  have hat : ∃ p, sr.a = some p ∧ ∀ j v, (encG g)[j]? = some v → z.cell? ((p.add (x.toNat * 6)).add j) = some v := Seg.elem encG_len (by decide) hoz.own.seg iZ
  obtain ⟨p, hp, hc⟩ := hat
  refine ⟨p, hp, ⟨x0, hx⟩, _, hc 0 _ rfl, _, hc 1 _ rfl, _, hc 2 _ rfl, _, hc 3 _ rfl, _, hc 4 _ rfl, _, hc 5 _ rfl, ?_⟩
  refine ⟨fun j w => 0 ≤ j ∧ Keep [g.ls] z w ∧ ∃ A : List Int, A.length = j.toNat ∧ OwnF u0 w 3 1 g.ls ((A ++ g.lo.drop j.toNat).flatMap encI), fun j _ => g.ls.n - j.toNat, ⟨by omega, Keep.refl _ _, [], rfl, by simpa using gl⟩, ?_⟩
  rintro j w1 ⟨j0, hk1, A, hA, ho1⟩
  refine ⟨fun hj => ?_, fun _ => ?_⟩
  · have hjl : j.toNat < g.lo.length := by omega
    obtain ⟨s1, s2⟩ := take_drop_set (A := A) (l := g.lo) (y := g.lo[j.toNat] + 7) hA (List.getElem?_eq_getElem hjl)
    have hn1 := ho1.ints.len
    obtain ⟨p', hp', y, hy, d0⟩ := ho1.ints.get j0 hj
    rw [s2] at hy
    cases hy
    have := c1 _ (List.getElem_mem hjl)
    unfold coordOk at this
    refine ⟨p', hp', ⟨j0, hj⟩, _, d0, ⟨by omega, by omega⟩, p', hp', ⟨j0, hj⟩, OwnF.store encI_len ho1 (by decide) (i := j.toNat) (by omega) (y := g.lo[j.toNat] + 7) (encI_one _) hp' fun u' ho' he _ => ⟨⟨by omega, by omega⟩, ⟨by omega, hk1.trans (he.keep (by simp)), A ++ [g.lo[j.toNat] + 7], by simp; omega, ?_⟩, by dsimp only; omega⟩⟩
    rw [s1] at ho'
    rw [show (j + 1).toNat = j.toNat + 1 by omega]
    exact ho'
  have gh1 := hk1.own gh (fresh1 gl.fresh) (single (fl g.hs (by simp)))
  have gi1 := hk1.own gi (fresh1 gl.fresh) (single (fl g.is (by simp)))
  have hoz1 := hk1.own hoz (fresh1 gl.fresh) (single (srg g.ls (by simp [Rgn.sls])).symm)
  have hgr1 : ∀ r ∈ rest.drop (x.toNat + 1), Own3 u0 w1 r := fun r hr => hk1.own3 (hgr r hr) (fresh1 gl.fresh) fun s hs t ht => single (gr g.ls (by simp [Rgn.sls]) r hr t ht) s hs
  have hkz1 : Keep D u w1 := hkz.trans fun b o hb hd => hk1 b o hb fun s hs => hd s (gD s (by simp at hs; simp [Rgn.sls, hs]))
  clear ho1 hA A hk1
  refine ⟨fun j w => 0 ≤ j ∧ Keep [g.hs] w1 w ∧ ∃ A : List Int, A.length = j.toNat ∧ OwnF u0 w 3 1 g.hs ((A ++ g.hi.drop j.toNat).flatMap encI), fun j _ => g.hs.n - j.toNat, ⟨by omega, Keep.refl _ _, [], rfl, by simpa using gh1⟩, ?_⟩
  rintro j w2 ⟨j0, hk2, A, hA, ho2⟩
  refine ⟨fun hj => ?_, fun _ => ?_⟩
  · have hjl : j.toNat < g.hi.length := by omega
    obtain ⟨s1, s2⟩ := take_drop_set (A := A) (l := g.hi) (y := g.hi[j.toNat] - 7) hA (List.getElem?_eq_getElem hjl)
    have hn1 := ho2.ints.len
    obtain ⟨p', hp', y, hy, d0⟩ := ho2.ints.get j0 hj
    rw [s2] at hy
    cases hy
    have := c2 _ (List.getElem_mem hjl)
    unfold coordOk at this
    refine ⟨p', hp', ⟨j0, hj⟩, _, d0, ⟨by omega, by omega⟩, p', hp', ⟨j0, hj⟩, OwnF.store encI_len ho2 (by decide) (i := j.toNat) (by omega) (y := g.hi[j.toNat] - 7) (encI_one _) hp' fun u' ho' he _ => ⟨⟨by omega, by omega⟩, ⟨by omega, hk2.trans (he.keep (by simp)), A ++ [g.hi[j.toNat] - 7], by simp; omega, ?_⟩, by dsimp only; omega⟩⟩
    rw [s1] at ho'
    rw [show (j + 1).toNat = j.toNat + 1 by omega]
    exact ho'
  have gi2 := hk2.own gi1 (fresh1 gh.fresh) (single (fh g.is (by simp)))
  have hoz2 := hk2.own hoz1 (fresh1 gh.fresh) (single (srg g.hs (by simp [Rgn.sls])).symm)
  have hgr2 : ∀ r ∈ rest.drop (x.toNat + 1), Own3 u0 w2 r := fun r hr => hk2.own3 (hgr1 r hr) (fresh1 gh.fresh) fun s hs t ht => single (gr g.hs (by simp [Rgn.sls]) r hr t ht) s hs
  have hkz2 : Keep D u w2 := hkz1.trans fun b o hb hd => hk2 b o hb fun s hs => hd s (gD s (by simp at hs; simp [Rgn.sls, hs]))
  clear ho2 hA A hk2
  refine ⟨fun j w => 0 ≤ j ∧ Keep [g.is] w2 w ∧ ∃ A : List Int, A.length = g.ids.length ∧ OwnF u0 w 3 1 g.is (A.flatMap encI), fun j _ => g.is.n - j.toNat, ⟨by omega, Keep.refl _ _, _, rfl, gi2⟩, ?_⟩
  rintro j w3 ⟨j0, hk3, A, hA, ho3⟩
  refine ⟨fun hj => ?_, fun _ => ?_⟩
  · obtain ⟨p', hp', _⟩ := ho3.ints.at j0 hj
    exact ⟨p', hp', ⟨j0, hj⟩, OwnF.store encI_len ho3 (by decide) (i := j.toNat) (by omega) (y := -1) (encI_one _) hp' fun u' ho' he _ => ⟨⟨by omega, by omega⟩, ⟨by omega, hk3.trans (he.keep (by simp)), _, by rw [List.length_set]; exact hA, ho'⟩, by dsimp only; omega⟩⟩
  have hoz3 := hk3.own hoz2 (fresh1 gi.fresh) (single (srg g.is (by simp [Rgn.sls])).symm)
  have hgr3 : ∀ r ∈ rest.drop (x.toNat + 1), Own3 u0 w3 r := fun r hr => hk3.own3 (hgr2 r hr) (fresh1 gi.fresh) fun s hs t ht => single (gr g.is (by simp [Rgn.sls]) r hr t ht) s hs
  have hkz3 : Keep D u w3 := hkz2.trans fun b o hb hd => hk3 b o hb fun s hs => hd s (gD s (by simp at hs; simp [Rgn.sls, hs]))
  clear ho3 hA A hk3
  refine ⟨p, hp, ⟨x0, hx⟩, ?_⟩
  rw [show ([Value.int .i64 0, .slice none 0 0, .slice none 0 0, .int .u64 0, .int .u64 0, .slice none 0 0] : List Value) = encG ⟨0, ⟨none, 0, 0⟩, ⟨none, 0, 0⟩, 0, ⟨none, 0, 0⟩, [], [], []⟩ from by simp [encG, hiW0, loW0]]
  refine OwnF.store encG_len hoz3 (by decide) (i := x.toNat) (by simp; omega) (y := ⟨0, ⟨none, 0, 0⟩, ⟨none, 0, 0⟩, 0, ⟨none, 0, 0⟩, [], [], []⟩) (encG_one _) hp fun u' ho' he _ => ⟨⟨by omega, by omega⟩, ⟨by omega, by omega, hkz3.trans (he.keep ((inD sr).2 (.inr (.inr (.inl rfl))))), ⟨Z ++ [⟨0, ⟨none, 0, 0⟩, ⟨none, 0, 0⟩, 0, ⟨none, 0, 0⟩, [], [], []⟩], by simp; omega, ?_⟩, fun r hr => ?_⟩, by dsimp only; omega⟩
  · rw [(take_drop_set hZ hg).1] at ho'
    rw [show (x + 1).toNat = x.toNat + 1 by omega]
    exact ho'
  · rw [show (x + 1).toNat = x.toNat + 1 by omega] at hr
    exact (he.keep (D := [sr]) (by simp)).own3 (hgr3 r hr) (fresh1 hoz3.fresh) fun s hs t ht => single (srr r hr t ht) s hs

end Go.Proofs.YtpbelkpfljhjlaaGreatDoor

/- VcLawF -/
namespace Go.Proofs.YtpbelkpfljhjlaaGreatDoor

/-- The regions of a search of all rows. -/
def restOf (a b c : Sl) (rest : List Rw) : List Rgn := if rest = [] then [] else [⟨2, a, b, 0, c, boxLo rest, boxHi rest, sortI (rest.map (·.id))⟩]

theorem AnsAt.own {u0 u : H} {sh ss sr : Sl} {hits : List Hit} {seen : List Int} {rest : List Rw} (h : AnsAt u0 u sh ss sr hits seen rest) : ∃ a b c : Sl, AnsO u0 u sh ss sr hits seen (restOf a b c rest) := by
  rcases h.r with ⟨he, rfl⟩ | ⟨hne, _, a, b, c, h1, h2, h3, h4, n1, n2, n3, f1, f2⟩
  · refine ⟨⟨none, 0, 0⟩, ⟨none, 0, 0⟩, ⟨none, 0, 0⟩, ?_⟩
    rw [restOf, if_pos he]
    refine ⟨h.h, h.s, OwnF.nil h.h.le _ _, fun r hr => (by cases hr), ?_⟩
    simp only [ansS, List.flatMap_nil]
    refine List.pairwise_cons.2 ⟨fun t ht => ?_, List.pairwise_cons.2 ⟨fun t ht => ?_, List.pairwise_singleton _ _⟩⟩
    · rcases List.mem_cons.1 ht with rfl | ht
      · exact h.hs
      · obtain rfl : t = _ := by simpa using ht
        intro g _ hg; simp [Sl.blk] at hg
    · obtain rfl : t = _ := by simpa using ht
      intro g _ hg; simp [Sl.blk] at hg
  · refine ⟨a, b, c, ?_⟩
    rw [restOf, if_neg hne]
    have e : ([⟨2, a, b, 0, c, boxLo rest, boxHi rest, sortI (rest.map (·.id))⟩] : List Rgn).flatMap encG = [.int .i64 2, .slice a.a a.n a.c, .slice b.a b.n b.c, .int .u64 0, .int .u64 0, .slice c.a c.n c.c] := by
      simp [encG, hiW0, loW0]
    refine ⟨h.h, h.s, by rw [e]; exact h1, fun r hr => ?_, ?_⟩
    · obtain rfl : r = _ := by simpa using hr
      exact ⟨h2, h3, h4⟩
    · have far1 : ∀ x ∈ [a, b, c], Far sh x ∧ Far ss x ∧ Far sr x := fun x hx => ⟨fun g h1' h2' => (f1 x hx g h2').1 h1', fun g h1' h2' => (f1 x hx g h2').2.1 h1', fun g h1' h2' => (f1 x hx g h2').2.2 h1'⟩
      have ne : ∀ {x y : Sl}, x.blk ≠ y.blk → Far x y := fun hn g hx hy => hn (by rw [hx, hy])
      simp only [ansS, List.flatMap_cons, List.flatMap_nil, List.append_nil, Rgn.sls]
      refine List.pairwise_cons.2 ⟨fun t ht => ?_, List.pairwise_cons.2 ⟨fun t ht => ?_, List.pairwise_cons.2 ⟨fun t ht => (far1 t ht).2.2, List.pairwise_cons.2 ⟨fun t ht => ?_, List.pairwise_cons.2 ⟨fun t ht => ?_, List.pairwise_singleton _ _⟩⟩⟩⟩⟩
      · rcases List.mem_cons.1 ht with rfl | ht
        · exact h.hs
        · rcases List.mem_cons.1 ht with rfl | ht
          · exact fun g hg hg2 => (f2 g hg2).1 hg
          · exact (far1 t ht).1
      · rcases List.mem_cons.1 ht with rfl | ht
        · exact fun g hg hg2 => (f2 g hg2).2 hg
        · exact (far1 t ht).2.1
      · rcases List.mem_cons.1 ht with rfl | ht
        · exact ne n1
        · obtain rfl : t = c := by simpa using ht
          exact ne n2
      · obtain rfl : t = c := by simpa using ht
        exact ne n3

theorem restOf_core (a b c a' b' c' : Sl) (rest : List Rw) : (restOf a b c rest).map Rgn.core = (restOf a' b' c' rest).map Rgn.core := by
  unfold restOf
  split <;> rfl

/-- What a search of all rows tells is sound. -/
theorem flat_sound {l : List Rw} {q : List Int} {k b : Int} (hq : Qok l q) (a1 a2 a3 : Sl) : Sound l q k (topk k.toNat ((l.take b.toNat).map (hitOf q))) (sortI ((l.take b.toNat).map (·.id))) (restOf a1 a2 a3 (l.drop b.toNat)) := by
  have hnd := hq.rows.nodup
  have e : l.map (·.id) = (l.take b.toNat).map (·.id) ++ (l.drop b.toNat).map (·.id) := by rw [← List.map_append, List.take_append_drop]
  have hnd' := hnd
  rw [e] at hnd'
  obtain ⟨n1, n2, _⟩ := List.nodup_append.1 hnd'
  refine ⟨sortI_rise n1, fun r hr => ?_, ?_, fun m hm hmid => ?_⟩
  · unfold restOf at hr
    split at hr
    · cases hr
    · rename_i hne
      obtain rfl : r = ⟨2, a1, a2, 0, a3, boxLo (l.drop b.toNat), boxHi (l.drop b.toNat), sortI ((l.drop b.toNat).map (·.id))⟩ := List.mem_singleton.1 hr
      have hok : Rok (l.drop b.toNat) (q.length : Int) := hq.rows.sub (List.drop_sublist _ _)
      obtain ⟨b1, b2, b3, b4, b5, b6⟩ := box_ok hok hne
      refine ⟨⟨hok.dim, sortI_rise n2, fun x hx => ?_, .inr (.inl ⟨rfl, rfl, b3, b4, b1, b2, b5⟩)⟩, fun h => ?_, fun x hx => ?_⟩
      · obtain ⟨r, hr, rfl⟩ := List.mem_map.1 ((sortI_perm _).mem_iff.1 hx)
        exact hok.id r hr
      · have := congrArg List.length h
        rw [sortI_len, List.length_map] at this
        exact hne (List.eq_nil_of_length_eq_zero this)
      · obtain ⟨r, hr, rfl⟩ := List.mem_map.1 ((sortI_perm _).mem_iff.1 hx)
        refine ⟨r, List.mem_of_mem_drop hr, rfl, fun _ i hi => b6 r hr i ?_, fun h => by cases h⟩
        have := (hok.v r hr).1
        omega
  · rw [e]
    refine List.Perm.append (sortI_perm _) ?_
    unfold restOf
    split
    · rename_i h0; rw [h0]; exact .refl _
    · simpa using sortI_perm _
  · have hp : m.Perm (l.take b.toNat) := rows_perm hnd hm (fun r hr => List.mem_of_mem_take hr) (by rw [hmid]; exact sortI_perm _)
    exact (topk_eq (hp.map (hitOf q))).symm

theorem spec.theodoliteref05_Searched {t : Sl} {q : List Int} {d k b : Int} {u : H} {K : Int → H → Prop} (ht : Ints u t q) (h : K (if vcheck q d ≠ 0 then vcheck q d else if k < 1 ∨ 64 < k ∨ b < 0 ∨ 1000000 < b then 1 else 0) u) : C.theodoliteref05_Searched t d k b u K := by
  apply vc.theodoliteref05_Searched
  refine spec.theodoliteref03_Check ht ⟨fun hne => by rw [if_pos hne] at h; exact h, fun he => ?_⟩
  rw [if_neg (by simpa using he)] at h
  by_cases hbad : k < 1 ∨ 64 < k ∨ b < 0 ∨ 1000000 < b
  · rw [if_pos hbad] at h
    exact ⟨fun _ => h, fun k1 => ⟨fun _ => h, fun k2 => ⟨fun _ => h, fun b1 => ⟨fun _ => h, fun b2 => by omega⟩⟩⟩⟩
  · rw [if_neg hbad] at h
    exact ⟨fun k1 => by omega, fun _ => ⟨fun k2 => by omega, fun _ => ⟨fun b1 => by omega, fun _ => ⟨fun b2 => by omega, fun _ => h⟩⟩⟩⟩

theorem srchErr_ok {l : List Rw} {q : List Int} {k b : Int} : srchErr l q k b = 0 ↔ Qok l q ∧ 1 ≤ k ∧ k ≤ 64 ∧ 0 ≤ b ∧ b ≤ 1000000 := by
  unfold srchErr
  constructor
  · intro h
    split at h
    · rename_i hne; exact absurd h hne
    · rename_i he
      split at h
      · cases h
      · exact ⟨asked_ok.1 (by simpa using he), by omega, by omega, by omega, by omega⟩
  · rintro ⟨h1, h2⟩
    rw [if_neg (by simp [asked_ok.2 h1]), if_neg (by omega)]

theorem AnsR.nil (u : H) : AnsR u ⟨none, 0, 0⟩ ⟨none, 0, 0⟩ ⟨none, 0, 0⟩ [] [] [] :=
  ⟨(OwnF.nil (H.le.refl u) 0 3).own.seg, Ints.nil u, (OwnF.nil (H.le.refl u) 0 6).own.seg, fun r hr => by cases hr⟩

end Go.Proofs.YtpbelkpfljhjlaaGreatDoor

/- VcFrame -/
namespace Go.Proofs.YtpbelkpfljhjlaaGreatDoor

/-- v0 turns into v0', a part of v, which turns into v'. -/
structure Framed (v0 v v0' v' : H) : Prop where
  le : v0'.le v'
  out : ∀ b o, v0 b = none → v b = some o → v0' b = none ∧ v' b = some o
  new : ∀ b, v' b ≠ none → v0' b ≠ none ∨ (v0 b = none ∧ v' b = v b)

def H.frame (v v0 v0' : H) : H := fun b => match v0' b with
  | some o => some o
  | none => match v0 b with
    | some _ => none
    | none => v b

theorem Step.frame {v0 v v0' : H} {w w' : World} (k : Step v0 [] w v0' [] w') (hle : v0.le v) (hs : Sub v w) : Step v [] w (v.frame v0 v0') [] w' ∧ Framed v0 v v0' (v.frame v0 v0') := by
  have h0 : ∀ b, v b = none → v0 b = none := fun b hb => by
    cases e : v0 b with
    | none => rfl
    | some o => rw [hle _ _ e] at hb; cases hb
  refine ⟨⟨fun b o hb => ?_, k.os, k.tape, k.output, k.drawn, k.size, fun b hb hu _ => k.rest b hb (h0 b hu) (by simp), fun b hb hu => ?_, [], by simp, by simp⟩, ⟨fun b o hb => ?_, fun b o h1 h2 => ?_, fun b hb => ?_⟩⟩
  · unfold H.frame at hb
    split at hb
    · rename_i e; cases hb; exact k.sub _ _ e
    · split at hb
      · cases hb
      · rename_i e; rw [k.rest b (hs.lt hb) e (by simp)]; exact hs _ _ hb
  · unfold H.frame
    rw [k.honest b hb (h0 b hu), h0 b hu]
    exact hu
  · unfold H.frame; rw [hb]
  · have := k.honest b (hs.lt h2) h1
    exact ⟨this, by unfold H.frame; rw [this, h1]; exact h2⟩
  · cases e : v0' b with
    | some o => exact .inl (by simp)
    | none =>
      cases e0 : v0 b with
      | some o => unfold H.frame at hb; rw [e, e0] at hb; exact absurd rfl hb
      | none => exact .inr ⟨rfl, by unfold H.frame; rw [e, e0]⟩

theorem Seg.else {u u' : H} {s : Sl} {size : Nat} {xs : List Value} (h : Seg u s size xs) (hu : ∀ g o, s.blk = some g → u g = some o → u' g = some o) : Seg u' s size xs :=
  ⟨h.len, h.cap, h.max, h.at'.imp id fun ⟨p, h1, h2⟩ => ⟨p, h1, fun i v e => by
    have hc := h2 i v e
    unfold H.cell? at hc ⊢
    have hb : (p.add i).block = p.block := by unfold Addr.add; split <;> rfl
    split at hc
    · rename_i c t f hx
      rw [hu _ _ (by simp [Sl.blk, h1, hb]) hx]
      exact hc
    · cases hc⟩⟩

/-- One continuation says no less than another one, R between what is known. -/
def kTo (R : H → H → Prop) : (ts : List CT) → Cur ts (H → Prop) → Cur ts (H → Prop) → Prop
  | [], r, r' => ∀ u u', R u u' → r u → r' u'
  | _ :: ts, K, K' => ∀ x, kTo R ts (K x) (K' x)

theorem unC_kTo {R : H → H → Prop} {u u' : H} (hR : R u u') : ∀ (ts : List CT) (K K' : Cur ts (H → Prop)) (vs : List Value), kTo R ts K K' → (unC ts K vs fun r => r u) → unC ts K' vs fun r => r u' := by
  intro ts
  induction ts with
  | nil => intro K K' vs h k; cases vs with
    | nil => exact h _ _ hR k
    | cons => simp [unC] at k
  | cons t ts ih =>
    intro K K' vs h k
    cases vs with
    | nil => simp [unC] at k
    | cons v vs =>
      simp only [unC] at k ⊢
      obtain ⟨x, rfl, hx⟩ := CT.un_spec k
      exact (CT.un_enc t x _).2 (ih (K x) (K' x) vs (h x) hx)

theorem ClT.frame {P : Program} {f : FuncId} {args : Array Value} {ss : List Sh} {v0 v : H} {K K' : Cur (ctsOf ss) (H → Prop)} (h : ClT P f args ss v0 K) (hle : v0.le v) (hk : kTo (Framed v0 v) (ctsOf ss) K K') : ClT P f args ss v K' := by
  intro w hw
  refine (h w (hw.mono hle)).mono ?_
  rintro e w' ⟨x, u', he, ⟨vs, hv, hx, hc⟩, hs⟩
  obtain ⟨h1, h2⟩ := hs.frame hle hw
  exact ⟨x, _, he, ⟨vs, hv, hx, unC_kTo h2 _ _ _ _ hk hc⟩, h1⟩

theorem ClR.frame {P : Program} {fv : Value} {args : Array Value} {ss : List Sh} {v0 v : H} {K K' : Cur (ctsOf ss) (H → Prop)} (h : ClR P fv args ss v0 K) (hle : v0.le v) (hk : kTo (Framed v0 v) (ctsOf ss) K K') : ClR P fv args ss v K' := by
  obtain ⟨l, hf, h⟩ := h
  refine ⟨l, hf, fun w hw => ?_⟩
  obtain ⟨fn, tmps, assign, body, hy, hR⟩ := h w (hw.mono hle)
  refine ⟨fn, tmps, assign, body, hy, hR.mono ?_⟩
  rintro e w' ⟨x, u', he, ⟨vs, hv, hx, hc⟩, hs⟩
  obtain ⟨h1, h2⟩ := hs.frame hle hw
  exact ⟨x, _, he, ⟨vs, hv, hx, unC_kTo h2 _ _ _ _ hk hc⟩, h1⟩

theorem ClV.frame {P : Program} {fv : Value} {args : Array Value} {ss : List Sh} {v0 v : H} {K K' : Cur (ctsOf ss) (H → Prop)} (h : ClV P fv args ss v0 K) (hle : v0.le v) (hk : kTo (Framed v0 v) (ctsOf ss) K K') : ClV P fv args ss v K' := by
  obtain ⟨f, cap, hf, hb, h⟩ := h
  exact ⟨f, cap, hf, hb, h.frame hle hk⟩

theorem ClY.frame {P : Program} {fv : Value} {args : Array Value} {ss : List Sh} {v0 v : H} {K K' : Cur (ctsOf ss) (H → Prop)} (h : ClY P fv args ss v0 K) (hle : v0.le v) (hk : kTo (Framed v0 v) (ctsOf ss) K K') : ClY P fv args ss v K' :=
  h.imp (fun h => h.frame hle hk) fun h => h.frame hle hk

/-- What is known at the end may be less. -/
theorem Step.less {u u' u'' : H} {bs bs' : List Nat} {w w' : World} (h : Step u bs w u' bs' w') (k : u''.le u') : Step u bs w u'' bs' w' :=
  ⟨h.sub.mono k, h.os, h.tape, h.output, h.drawn, h.size, h.rest, fun b hb hu => (by
    cases e : u'' b with
    | none => rfl
    | some o => have := h.honest b hb hu; rw [k _ _ e] at this; cases this), h.more⟩

def kW : (ts : List CT) → Cur ts (H → Prop) → Cur ts (H → Prop)
  | [], r => fun u' => ∃ u'', u''.le u' ∧ r u''
  | _ :: ts, K => fun x => kW ts (K x)

theorem unC_kW {u' : H} : ∀ (ts : List CT) (K : Cur ts (H → Prop)) (vs : List Value), (unC ts (kW ts K) vs fun r => r u') → ∃ u'', u''.le u' ∧ unC ts K vs fun r => r u'' := by
  intro ts
  induction ts with
  | nil => intro K vs h; cases vs with
    | nil => exact h
    | cons => simp [unC] at h
  | cons t ts ih =>
    intro K vs h
    cases vs with
    | nil => simp [unC] at h
    | cons v vs =>
      simp only [unC] at h ⊢
      obtain ⟨x, rfl, hx⟩ := CT.un_spec h
      obtain ⟨u'', h1, h2⟩ := ih (K x) vs hx
      exact ⟨u'', h1, (CT.un_enc t x _).2 h2⟩

theorem ClT.weaken {P : Program} {f : FuncId} {args : Array Value} {ss : List Sh} {u : H} {K : Cur (ctsOf ss) (H → Prop)} (h : ClT P f args ss u (kW (ctsOf ss) K)) : ClT P f args ss u K := by
  intro w hw
  refine (h w hw).mono ?_
  rintro e w' ⟨v, u', he, ⟨vs, hk, hv, hc⟩, hs⟩
  obtain ⟨u'', hle, hc'⟩ := unC_kW _ _ _ hc
  exact ⟨v, u'', he, ⟨vs, hk, hv, hc'⟩, hs.less hle⟩

/-! ### a measure that stands in no slot -/

theorem least_ex {P : Nat → Prop} (h : ∃ n, P n) : ∃ n, P n ∧ ∀ m, P m → n ≤ m := by
  obtain ⟨n, hn⟩ := h
  induction n using Nat.strongRecOn with
  | ind n ih =>
    rcases Classical.em (∃ m, m < n ∧ P m) with ⟨m, hm, hp⟩ | hno
    · exact ih m hm hp
    · exact ⟨n, hn, fun m hp => Nat.le_of_not_lt fun hlt => hno ⟨m, hlt, hp⟩⟩

open Classical in
noncomputable def least (P : Nat → Prop) : Nat := if h : ∃ n, P n then Classical.choose (least_ex h) else 0

theorem least_is {P : Nat → Prop} (h : ∃ n, P n) : P (least P) := by
  unfold least; rw [dif_pos h]; exact (Classical.choose_spec (least_ex h)).1

theorem least_le {P : Nat → Prop} {n : Nat} (h : P n) : least P ≤ n := by
  unfold least; rw [dif_pos ⟨n, h⟩]; exact (Classical.choose_spec (least_ex ⟨n, h⟩)).2 n h

end Go.Proofs.YtpbelkpfljhjlaaGreatDoor

/- VcSort2 -/
namespace Go.Proofs.YtpbelkpfljhjlaaGreatDoor
open Go.Shelf Go.RowKit Go.Sort

theorem flatK_list {α : Type} [Inhabited α] {enc : α → List Value} {k : Nat} (hk0 : 0 < k) (hk : ∀ x, (enc x).length = k) (d : Array α) : (flatK enc k d).toList = d.toList.flatMap enc := by
  apply List.ext_getElem?
  intro i
  rcases Nat.lt_or_ge i (d.size * k) with hi | hi
  · have e : i = i / k * k + i % k := by rw [Nat.mul_comm]; exact (Nat.div_add_mod i k).symm
    have hd : i / k < d.size := Nat.div_lt_of_lt_mul (by rw [Nat.mul_comm]; exact hi)
    have hr : i % k < k := Nat.mod_lt _ hk0
    have hf := flat_get hk d.toList (i / k) (i % k) hr
    rw [← e] at hf
    rw [hf]
    have : (flatK enc k d).toList[i]? = some ((flatK enc k d)[i]!) := by
      rw [Array.getElem?_toList, getElem!_pos _ i (by simpa using hi), Array.getElem?_eq_getElem (by simpa using hi)]
    rw [this, get_flatK _ _ _ _ hi]
    simp [hd]
    have h2 : i % k < (enc d[i / k]).length := by rw [hk]; exact hr
    rw [List.getElem?_eq_getElem h2]
    rfl
  · rw [List.getElem?_eq_none (by simpa using hi), List.getElem?_eq_none (by rw [flat_len hk]; simpa using hi)]

/-- A call that leaves all as it was, in the shelf's words, where so much is known. -/
theorem grown_of_read {P : Program} {f : FuncId} {args : Array Value} {z : Int} {W : World} (h : ClT P f args [.one (.int .i64)] (fun b => W.heap[b]?) fun z' u' => z' = z ∧ u' = fun b => W.heap[b]?) :
    Calls P f args W fun e w' => e = .returned (.int .i64 z) ∧ ∃ q os', w' = grow (W.drewN q) os' := by
  refine (h W (fun b o e => e)).mono ?_
  rintro e w' ⟨v, u', rfl, ⟨vs, hk, rfl, hc⟩, hs⟩
  cases hk with
  | cons x hr =>
    cases hr
    have hc2 := (CT.un_enc (.int .i64) x _).1 hc
    obtain ⟨hx, hu⟩ : x = z ∧ u' = _ := hc2
    subst hx; subst hu
    exact ⟨rfl, hs.grow_eq⟩


theorem sorted_list {α : Type} [Inhabited α] {cf : α → α → Int} {d : Array α} (hs : SortedIn (ltOf cf) 0 d.size d) : d.toList.Pairwise fun a b => ¬ cf b a < 0 := by
  refine List.pairwise_iff_getElem.2 fun i j hi hj hij => ?_
  have := hs i j (Nat.zero_le _) hij (by simpa using hj)
  simp only [Array.length_toList] at hi hj
  rw [getElem!_pos d j hj, getElem!_pos d i hi] at this
  unfold ltOf at this
  simpa using this

/-- slices.SortFunc, of rows, by whatever comparison that is pure. -/
theorem spec.slices_SortFunc__api_Row_ {α : Type} [Inhabited α] (val : α → Rw) {g : FuncId} {cf : α → α → Int} (hO : SWO (ltOf cf)) (eg : ∀ args w, (callFunc g args).run Tryz.prog w = .ok (.enter g args) w)
    (hcf : ∀ a b (u : H), ClT Tryz.prog g #[.agg (encR (val a)).toArray, .agg (encR (val b)).toArray] [.one (.int .i64)] u fun z' u' => z' = cf a b ∧ u' = u)
    {u0 u : H} {s : Sl} {l : List α} (ho : OwnF u0 u 43 2 s ((l.map val).flatMap encR)) (hsm : l.length < 4611686018427387904) {K : H → Prop}
    (hK : ∀ (u' : H) (l' : List α), l'.Perm l → (l'.Pairwise fun a b => ¬ cf b a < 0) → OwnF u0 u' 43 2 s ((l'.map val).flatMap encR) → Else u u' s → K u') : C.slices_SortFunc__api_Row_ s (.func (.func g) #[] #[]) u K := by
  intro w hw
  have hsn : s.n = l.length := by have := flat_n encR_len (by decide) ho.own.seg; simpa using this
  rcases ho.own.is with h0 | ⟨b, cur, ha, hg, hle, hc, hs, ht⟩
  · subst h0
    have hl : l = [] := by
      have : l.length = 0 := hsn.symm
      exact List.eq_nil_of_length_eq_zero this
    subst hl
    refine (AnyF.slices_SortFunc_none Tryz.sortRows none 0 _ w).mono ?_
    rintro e w' ⟨rfl, rfl⟩
    exact ⟨_, u, rfl, ⟨[], .nil, rfl, hK u [] (List.Perm.refl _) List.Pairwise.nil ho (Else.refl _ _)⟩, Step.refl hw⟩
  have hflat : ∀ m : List α, (m.map val).flatMap encR = m.flatMap fun x => encR (val x) := fun m => by rw [List.flatMap_map]
  have hH : HoldsK (fun x => encR (val x)) 2 w b 0 l.toArray := by
    intro j hj
    simp only [size_flatK, List.size_toArray] at hj
    have hl : ((l.map val).flatMap encR)[j]? = some ((flatK (fun x => encR (val x)) 2 l.toArray)[j]!) := by
      have := flatK_list (k := 2) (enc := fun x => encR (val x)) (by decide) (fun x => encR_len _) l.toArray
      simp only [] at this
      rw [hflat, ← this, Array.getElem?_toList, getElem!_pos _ j (by simpa using hj), Array.getElem?_eq_getElem (by simpa using hj)]
    constructor
    · rcases ho.own.seg.at' with h1 | ⟨p, hp, hcell⟩
      · rw [h1] at hl; simp at hl
      · rw [ha] at hp; cases hp
        have := hw.cell (hcell j _ hl)
        rw [Addr.add_lit, Nat.zero_add] at this
        simpa using this
    · simp [World.frozen?, hw _ _ hg]
  have hcall := AnyQ.slices_SortFunc Tryz.sortRows 2 (fun w => by kernel_rfl) (fun w => by kernel_rfl) (fun x => encR (val x)) (fun x => encR_len _) (fun x => encR_one _) cf hO g #[] b 0 s.c l.toArray w eg
    (fun m os dk _ x y => by
      have := grown_of_pure (hcf x y) (sortWorldK (fun x => encR (val x)) 2 w b 0 m dk os)
      simpa using this) hH (hw.lt hg) (by simpa using hsm)
  simp only [List.size_toArray] at hcall
  change Calls Tryz.prog 96 _ _ _ at hcall
  rw [ha, hsn]
  refine hcall.mono ?_
  rintro e w' ⟨rfl, d', n, os, ⟨hp1, _, hp3⟩, hsrt, rfl⟩
  simp only [List.size_toArray] at hp1
  have hperm : d'.toList.Perm l := by
    have e1 : d'.extract 0 l.length = d' := by rw [← hp1]; simp
    have e2 : l.toArray.extract 0 l.length = l.toArray := by simp
    rw [e1, e2] at hp3
    simpa using hp3
  obtain ⟨ho', he⟩ := ho.resort ha hg (F := flatK (fun x => encR (val x)) 2 d') (by rw [size_flatK, hp1, hsn])
  rw [flatK_list (by decide) (fun x => encR_len _), ← hflat] at ho'
  exact ⟨_, _, rfl, ⟨[], .nil, rfl, hK _ d'.toList hperm (sorted_list (by rw [hp1]; exact hsrt)) ho' he⟩, step_sorted hw hg n _ os⟩

/-- slices.SortFunc, of numbers, by a closure that looks at what else is known. -/
theorem spec.slices_SortFunc___int_int_ {α : Type} [Inhabited α] (val : α → Int) {g : FuncId} {cb : Array Value} {cf : α → α → Int} (hO : SWO (ltOf cf)) (eg : ∀ args w, (callFunc g args).run Tryz.prog w = .ok (.enter g args) w)
    {ub : H} (hcf : ∀ a b (v : H), ub.le v → ClT Tryz.prog g (#[.int .i64 (val a), .int .i64 (val b)] ++ cb) [.one (.int .i64)] v fun z' u' => z' = cf a b ∧ u' = v)
    {u0 u : H} {s : Sl} {l : List α} (hub : ub.le u) (hbs : ∀ b, s.blk = some b → ub b = none) (ho : OwnF u0 u 3 1 s ((l.map val).flatMap encI)) (hsm : l.length < 4611686018427387904) {K : H → Prop}
    (hK : ∀ (u' : H) (l' : List α), l'.Perm l → (l'.Pairwise fun a b => ¬ cf b a < 0) → OwnF u0 u' 3 1 s ((l'.map val).flatMap encI) → Else u u' s → K u') : C.slices_SortFunc___int_int_ s (.func (.func g) #[] cb) u K := by
  intro w hw
  have hsn : s.n = l.length := by have := ho.ints.len; simpa using this
  rcases ho.own.is with h0 | ⟨b, cur, ha, hg, hle, hc, hs, ht⟩
  · subst h0
    have hl : l = [] := by
      have : l.length = 0 := hsn.symm
      exact List.eq_nil_of_length_eq_zero this
    subst hl
    refine (AnyF.slices_SortFunc_none { Tryz.sortNums with } none 0 _ w).mono ?_
    rintro e w' ⟨rfl, rfl⟩
    exact ⟨_, u, rfl, ⟨[], .nil, rfl, hK u [] (List.Perm.refl _) List.Pairwise.nil ho (Else.refl _ _)⟩, Step.refl hw⟩
  have hbu : ub b = none := hbs b (by simp [Sl.blk, ha])
  have hH : Holds (fun x => Value.int .i64 (val x)) w b 0 l.toArray := by
    intro j hj
    have hj' : j < l.length := by simpa using hj
    have hl : ((l.map val).flatMap encI)[j]? = some (.int .i64 (val l[j])) := by rw [flatI]; simp [hj']
    constructor
    · rcases ho.own.seg.at' with h1 | ⟨p, hp, hcell⟩
      · rw [h1] at hl; simp at hl
      · rw [ha] at hp; cases hp
        have := hw.cell (hcell j _ hl)
        rw [Addr.add_lit, Nat.zero_add] at this
        rw [getElem!_pos _ j (by simpa using hj')]
        simpa using this
    · simp [World.frozen?, hw _ _ hg]
  have hcall := Any.slices_SortFunc Tryz.sortNums (fun x : α => Value.int .i64 (val x)) (fun x => rfl) cf hO g cb b 0 s.c l.toArray w eg
    (fun m os dk _ x y => by
      refine grown_of_read (hcf x y _ fun c o hc => ?_)
      have hcb : c ≠ b := fun e => by rw [e, hbu] at hc; cases hc
      have hwc := hw _ _ (hub _ _ hc)
      have hlt : c < w.heap.size := (Array.getElem?_eq_some_iff.1 hwc).1
      have hgw : (Sort.ahead w m).heap[b]? = some (.cells cur 3 (0, 0)) := hw _ _ hg
      have h2 := (heap_mapBlock (putCells (fun x : α => Value.int .i64 (val x)) 0 dk) hgw).2 c hcb
      show ((mapBlock (Sort.ahead w m) b (putCells (fun x : α => Value.int .i64 (val x)) 0 dk)).heap ++ os)[c]? = _
      have hsz : (mapBlock (Sort.ahead w m) b (putCells (fun x : α => Value.int .i64 (val x)) 0 dk)).heap.size = w.heap.size := by simp [mapBlock, Sort.ahead]
      rw [Array.getElem?_append_left (by rw [hsz]; exact hlt), h2]
      exact hwc) hH (hw.lt hg) (by simpa using hsm)
  simp only [List.size_toArray] at hcall
  change Calls Tryz.prog 101 _ _ _ at hcall
  rw [ha, hsn]
  refine hcall.mono ?_
  rintro e w' ⟨rfl, d', n, os, ⟨hp1, _, hp3⟩, hsrt, rfl⟩
  simp only [List.size_toArray] at hp1
  have hperm : d'.toList.Perm l := by
    have e1 : d'.extract 0 l.length = d' := by rw [← hp1]; simp
    have e2 : l.toArray.extract 0 l.length = l.toArray := by simp
    rw [e1, e2] at hp3
    simpa using hp3
  have hput : putCells (fun x : α => Value.int .i64 (val x)) 0 d' cur = putCells id 0 ((d'.toList.map val).map fun x => Value.int .i64 x).toArray cur := by
    unfold putCells
    apply Array.ext
    · simp
    · intro i h1 h2
      simp only [Array.getElem_mapIdx, List.size_toArray, List.length_map, Array.length_toList, Nat.zero_le, true_and, Nat.zero_add, Nat.sub_zero, id]
      split
      · rename_i hi
        rw [getElem!_pos _ i (by simpa using hi), getElem!_pos _ i (by simpa using hi)]
        simp
      · rfl
  obtain ⟨ho', he⟩ := ho.resort ha hg (F := ((d'.toList.map val).map fun x => Value.int .i64 x).toArray) (by simp [hp1, hsn])
  rw [← hput] at ho' he
  simp only [] at ho'
  rw [← flatI] at ho'
  exact ⟨_, _, rfl, ⟨[], .nil, rfl, hK _ d'.toList hperm (sorted_list (by rw [hp1]; exact hsrt)) ho' he⟩, step_sorted hw hg n _ os⟩

end Go.Proofs.YtpbelkpfljhjlaaGreatDoor

/- VcOwn -/
namespace Go.Proofs.YtpbelkpfljhjlaaGreatDoor
open Go.Sort Go.Shelf

/-- Rows of one's own: their block, and each vector's. -/
structure RowsO (u0 u : H) (s : Sl) (ls : List Rw) : Prop where
  own : OwnF u0 u 43 2 s (ls.flatMap encR)
  inner : ∀ r ∈ ls, OwnF u0 u 3 1 r.s (r.v.flatMap encI)
  far : ∀ r ∈ ls, Far s r.s
  apart : ls.Pairwise fun a b => Far a.s b.s

theorem RowsO.rws {u0 u : H} {s : Sl} {ls : List Rw} (h : RowsO u0 u s ls) : Rws u s ls := ⟨h.own.own.seg, fun r hr => (h.inner r hr).ints⟩

theorem RowsO.mono {u0 u u' : H} {s : Sl} {ls : List Rw} (h : RowsO u0 u s ls) (k : u.le u') : RowsO u0 u' s ls :=
  ⟨h.own.mono k, fun r hr => (h.inner r hr).mono k, h.far, h.apart⟩

def Rws1 (r : Rw) : Prop := 1 ≤ r.id ∧ r.id ≤ 1000000000

theorem rowSWO : SWO (ltOf fun a b : { r // Rws1 r } => a.1.id - b.1.id) where
  irrefl x := by unfold ltOf; simp
  trans x y z h1 h2 := by unfold ltOf at *; simp only [decide_eq_true_eq] at *; omega
  ntrans x y z h1 h2 := by unfold ltOf at *; simp only [decide_eq_false_iff_not] at *; omega

instance : Inhabited { r // Rws1 r } := ⟨⟨⟨1, ⟨none, 0, 0⟩, []⟩, by unfold Rws1; decide⟩⟩

theorem spec.flat_Own {s : Sl} {l : List Rw} {u : H} {K : Sl → H → Prop} (hs : Rws u s l) (hid : ∀ r ∈ l, 1 ≤ r.id ∧ r.id ≤ 1000000000) (hn : l.length ≤ 1000000) (hv : ∀ r ∈ l, r.v.length ≤ 1000000)
    (hK : ∀ s' ls u', RowsO u u' s' ls → (ls.map Rw.pr).Perm (l.map Rw.pr) → (ls.Pairwise fun a b => a.id ≤ b.id) → K s' u') : C.flat_Own s u K := by
  have hsn := hs.len
  apply vc.flat_Own
  refine sem_make tRows (by omega) (Int.le_refl _) (by omega) (by omega) fun g hg => ?_
  have hmade : ∀ (n : Nat), (madeCells [Value.int .i64 0, .slice none 0 0].toArray (n * 2)).toList = (List.replicate n (⟨0, ⟨none, 0, 0⟩, []⟩ : Rw)).flatMap encR := fun n => made_flat (enc := encR) encR_len (by decide) ⟨0, ⟨none, 0, 0⟩, []⟩ n
  obtain ⟨cs, hcs⟩ : ∃ cs, madeCells [Value.int .i64 0, .slice none 0 0].toArray ((s.n : Int).toNat * 2) = cs := ⟨_, rfl⟩
  have hcl : cs.toList = (List.replicate l.length (⟨0, ⟨none, 0, 0⟩, []⟩ : Rw)).flatMap encR := by rw [← hcs, ← hmade, show (s.n : Int).toNat = l.length by omega]
  rw [hcs]
  have hcz : cs.size = l.length * 2 := by rw [← Array.length_toList, hcl, flat_len encR_len]; simp
  have ho0 : OwnF u (u.ins g (.cells cs 43 (0, 0))) 43 2 ⟨some ⟨g, 0, none⟩, l.length, l.length⟩ ((List.replicate l.length (⟨0, ⟨none, 0, 0⟩, []⟩ : Rw)).flatMap encR) := by
    have := OwnF.make (k := 2) (H.le.refl u) hg (cells := cs) (e := 43) (n := l.length) (by omega) hcz
    rw [hcl] at this
    exact this
  rw [show (s.n : Int).toNat = l.length by omega]
  have hblk : (⟨some ⟨g, 0, none⟩, l.length, l.length⟩ : Sl).blk = some g := rfl
  refine ⟨fun i w => 0 ≤ i ∧ i ≤ l.length ∧ ∃ D : List Rw, D.map Rw.pr = (l.take i.toNat).map Rw.pr ∧ RowsO u w ⟨some ⟨g, 0, none⟩, l.length, l.length⟩ (D ++ List.replicate (l.length - i.toNat) ⟨0, ⟨none, 0, 0⟩, []⟩),
    fun i _ => l.length - i.toNat, ⟨by omega, by omega, [], by simp, ?_⟩, ?_⟩
  · refine ⟨by simpa using ho0, fun r hr => ?_, fun r hr => ?_, ?_⟩
    · simp at hr
      rw [hr.2]
      exact OwnF.nil (H.le_ins _ hg) _ _
    · simp at hr
      rw [hr.2]
      intro x _ hx; simp [Sl.blk] at hx
    · simp only [List.nil_append]
      rw [List.pairwise_replicate]
      exact .inr fun x hx => by simp [Sl.blk] at hx
  rintro i w ⟨i0, i1, D, hD, hR⟩
  have hDl : D.length = i.toNat := by have := congrArg List.length hD; simp at this; omega
  refine ⟨fun hil => ?_, fun hig => ?_⟩
  · obtain ⟨p, hp, r, hr, c0, c1, c2⟩ := (hs.mono hR.own.le).at i0 hil
    have hrm : r ∈ l := List.mem_of_getElem? hr
    have hrv := c2.len
    have := hv r hrm
    refine ⟨p, hp, ⟨i0, hil⟩, _, c0, _, c1, spec.slices_Clone___int_int_ c2 (by omega) fun s9 u10 ho9 hn9 => ⟨ho9.le, _, rfl, ⟨i0, by show i < ((l.length : Nat) : Int); omega⟩, ?_⟩⟩
    have hR10 := hR.mono ho9.le
    refine OwnF.store (enc := encR) encR_len hR10.own (by decide) (i := i.toNat) (by simp; omega) (y := ⟨r.id, s9, r.v⟩) (encR_one _) rfl fun u12 ho12 he12 _ => ⟨⟨by omega, by omega⟩, ⟨by omega, by omega, D ++ [⟨r.id, s9, r.v⟩], ?_, ?_⟩, by dsimp only; omega⟩
    · rw [show (i + 1).toNat = i.toNat + 1 by omega, List.take_add_one, hr, List.map_append, hD]
      simp [Rw.pr]
    · have hset : (D ++ List.replicate (l.length - i.toNat) (⟨0, ⟨none, 0, 0⟩, []⟩ : Rw)).set i.toNat ⟨r.id, s9, r.v⟩ = D ++ [⟨r.id, s9, r.v⟩] ++ List.replicate (l.length - (i + 1).toNat) ⟨0, ⟨none, 0, 0⟩, []⟩ := by
        rw [show l.length - i.toNat = (l.length - (i + 1).toNat) + 1 by omega, List.replicate_succ, ← hDl, set_mid]
        simp
      rw [hset] at ho12
      -- blocks
      have hold : ∀ x ∈ D, OwnF u w 3 1 x.s (x.v.flatMap encI) := fun x hx => hR.inner x (List.mem_append_left _ hx)
      have hgk : w g ≠ none := own_known hR.own hblk
      have hs9g : s9.blk ≠ some g := fun e => hgk (ho9.fresh g e)
      have hfarD : ∀ x ∈ D, Far x.s s9 := fun x hx c hc hc' => own_known (hold x hx) hc (ho9.fresh c hc')
      have hDg : ∀ x ∈ D, Far ⟨some ⟨g, 0, none⟩, l.length, l.length⟩ x.s := fun x hx => hR.far x (List.mem_append_left _ hx)
      refine ⟨ho12, fun x hx => ?_, fun x hx => ?_, ?_⟩
      · rcases List.mem_append.1 hx with hx | hx
        · rcases List.mem_append.1 hx with hx | hx
          · exact OwnF.else (e := 0) ((hold x hx).mono ho9.le) he12 (fun c hc => hR.own.fresh c hc) fun c hc => hDg x hx c hc
          · simp at hx
            subst hx
            exact OwnF.else (e := 0) (ho9.weaken hR.own.le) he12 (fun c hc => hR.own.fresh c hc) fun c hc => by
              have : c = g := by rw [hblk] at hc; exact (Option.some.inj hc).symm
              rw [this]; exact hs9g
        · rw [(List.mem_replicate.1 hx).2]
          exact OwnF.nil (ho12.le) _ _
      · rcases List.mem_append.1 hx with hx | hx
        · rcases List.mem_append.1 hx with hx | hx
          · exact hDg x hx
          · simp at hx
            subst hx
            intro c hc
            have : c = g := by rw [hblk] at hc; exact (Option.some.inj hc).symm
            rw [this]; exact hs9g
        · rw [(List.mem_replicate.1 hx).2]
          intro c _ hc; simp [Sl.blk] at hc
      · have hap := (List.pairwise_append.1 hR.apart).1
        refine List.pairwise_append.2 ⟨List.pairwise_append.2 ⟨hap, by simp, fun x hx y hy => ?_⟩, ?_, fun x hx y hy => ?_⟩
        · simp at hy; subst hy; exact hfarD x hx
        · rw [List.pairwise_replicate]
          exact .inr fun c hc => by simp [Sl.blk] at hc
        · rw [(List.mem_replicate.1 hy).2]
          intro c _ hc; simp [Sl.blk] at hc
  · have hil : i.toNat = l.length := by
      have : ¬ i < (s.n : Int) := hig
      omega
    rw [hil, Nat.sub_self, List.replicate_zero, List.append_nil] at hR
    rw [hil, List.take_length] at hD
    have hin : ∀ r ∈ D, Rws1 r := fun r hr => by
      have : r.pr ∈ l.map Rw.pr := by rw [← hD]; exact List.mem_map.2 ⟨r, hr, rfl⟩
      obtain ⟨r', hr', e⟩ := List.mem_map.1 this
      have h1 := hid r' hr'
      have : r'.id = r.id := congrArg Prod.fst e
      unfold Rws1; rw [← this]; exact h1
    obtain ⟨E, hE⟩ : ∃ E : List { r // Rws1 r }, E.map (·.1) = D := ⟨D.attachWith _ hin, by simp⟩
    have hown := hR.own
    rw [← hE] at hown
    refine spec.slices_SortFunc__api_Row_ (val := fun r : { r // Rws1 r } => r.1) rowSWO (enters_of Tryz.func97 (by kernel_rfl) rfl) (fun a b v => ?_) hown (by have := congrArg List.length hE; simp at this; omega) fun u2 E' hp hsrt ho2 he2 => hK _ (E'.map (·.1)) _ ?_ ?_ ?_
    · have ha := a.2
      have hb := b.2
      unfold Rws1 at ha hb
      exact vc.flat_Own_1 a.1.id a.1.s b.1.id b.1.s v (fun z' u2 => z' = a.1.id - b.1.id ∧ u2 = v) ⟨⟨by omega, by omega⟩, rfl, rfl⟩
    · have hpm : (E'.map (·.1)).Perm D := by rw [← hE]; exact hp.map _
      have hmem : ∀ x ∈ E'.map (·.1), x ∈ D := fun x hx => hpm.mem_iff.1 hx
      exact ⟨ho2, fun r hr => OwnF.else (e := 0) (hR.inner r (hmem r hr)) he2 (fun c hc => hR.own.fresh c hc) fun c hc => hR.far r (hmem r hr) c hc, fun r hr => hR.far r (hmem r hr), hR.apart.perm hpm.symm fun h => h.symm⟩
    · rw [← hD, ← hE]
      exact ((hp.map (·.1)).map Rw.pr)
    · rw [List.pairwise_map]
      exact hsrt.imp fun h => by omega

/-- The error of a row that is to be put. -/
def mayErr (id : Int) (v : List Int) (d : Int) (there : Bool) (many : Int) : Int :=
  if id < 1 ∨ 1000000000 < id then 50 else if vcheck v d ≠ 0 then vcheck v d else if there = false ∧ 512 ≤ many then 2 else 0

theorem spec.flat_May {id : Int} {s : Sl} {v : List Int} {d : Int} {there : Bool} {many : Int} {u : H} {K : Int → H → Prop} (hs : Ints u s v) (h : K (mayErr id v d there many) u) : C.flat_May id s d there many u K := by
  apply vc.flat_May
  refine spec.vec_Check hs ?_
  intro K2 hK2
  have go : ∀ bb : Bool, (bb = true ↔ (id < 1 ∨ 1000000000 < id)) → K2 bb u := fun bb hb => hK2 bb u ⟨fun e => ?_, fun e => ⟨fun hne => ?_, fun he => ⟨fun ht => ⟨fun hm => ?_, fun hm => ?_⟩, fun ht => ?_⟩⟩⟩
  · exact ⟨fun h1 => go true ⟨fun _ => .inl h1, fun _ => rfl⟩, fun h1 => go _ ⟨fun e => .inr (by simpa using e), fun e => by simp; omega⟩⟩
  · unfold mayErr at h; rw [if_pos (hb.1 e)] at h; exact h
  all_goals
    have hnb : ¬ (id < 1 ∨ 1000000000 < id) := fun e2 => by rw [hb.2 e2] at e; cases e
    unfold mayErr at h
    rw [if_neg hnb] at h
  · rw [if_pos hne] at h; exact h
  · rw [if_neg (by simpa using he), if_pos ⟨by simpa using ht, hm⟩] at h; exact h
  · rw [if_neg (by simpa using he), if_neg (fun h2 => hm h2.2)] at h; exact h
  · rw [if_neg (by simpa using he), if_neg (fun h2 => by rw [ht] at h2; cases h2.1)] at h; exact h

/-- The error of a question. -/
def askErr (q : List Int) (d k b : Int) : Int := if vcheck q d ≠ 0 then vcheck q d else if k < 1 ∨ 64 < k ∨ b < 0 ∨ 1000000 < b then 1 else 0

theorem spec.flat_Asked {t : Sl} {q : List Int} {d k b : Int} {u : H} {K : Int → H → Prop} (ht : Ints u t q) (h : K (askErr q d k b) u) : C.flat_Asked t d k b u K := by
  unfold askErr at h
  apply vc.flat_Asked
  refine spec.vec_Check ht ⟨fun hne => by rw [if_pos hne] at h; exact h, fun he => ?_⟩
  rw [if_neg (by simpa using he)] at h
  by_cases hbad : k < 1 ∨ 64 < k ∨ b < 0 ∨ 1000000 < b
  · rw [if_pos hbad] at h
    exact ⟨fun _ => h, fun k1 => ⟨fun _ => h, fun k2 => ⟨fun _ => h, fun b1 => ⟨fun _ => h, fun b2 => by omega⟩⟩⟩⟩
  · rw [if_neg hbad] at h
    exact ⟨fun k1 => by omega, fun _ => ⟨fun k2 => by omega, fun _ => ⟨fun b1 => by omega, fun _ => ⟨fun b2 => by omega, fun _ => h⟩⟩⟩⟩

theorem spec.theodolitekeep_Rows {s t : Sl} {a c : List Rw} {u : H} {K : Bool → H → Prop} (hs : Rws u s a) (ht : Rws u t c) (h : K (decide (a.map Rw.pr = c.map Rw.pr)) u) : C.theodolitekeep_Rows s t u K := by
  have key : ∀ z, decide (a.map Rw.pr = c.map Rw.pr) = z → K z u := fun z e => e ▸ h
  have hn := hs.len
  have hm := ht.len
  have hx := hs.max
  apply vc.theodolitekeep_Rows
  refine ⟨fun hne => key false ?_, fun heq => ?_⟩
  · refine decide_eq_false fun e => hne ?_
    have := congrArg List.length e
    simp at this
    omega
  refine ⟨fun _ i w => w = u ∧ 0 ≤ i ∧ i ≤ a.length ∧ (a.take i.toNat).map Rw.pr = (c.take i.toNat).map Rw.pr, fun _ i _ => a.length - i.toNat, ⟨rfl, by omega, by omega, by simp⟩, ?_⟩
  rintro bb i w ⟨rfl, i0, i1, hsame⟩
  refine ⟨fun hil => ?_, fun hig => ?_⟩
  · intro K5 hK5
    obtain ⟨p, hp, r, hr, c0, c1, c2⟩ := hs.at i0 hil
    obtain ⟨q, hq, r', hr', d0, d1, d2⟩ := ht.at (x := i) i0 (by omega)
    have bad : r.pr ≠ r'.pr → K false w := fun hne => key false (decide_eq_false fun e => hne (by
      have := congrArg (fun z => z[i.toNat]?) e
      simp only [List.getElem?_map, hr, hr', Option.map_some, Option.some.injEq] at this
      exact this))
    refine ⟨p, hp, ⟨i0, hil⟩, q, hq, ⟨i0, by omega⟩, _, c0, _, d0, fun hne => bad fun e => hne (congrArg Prod.fst e), fun hid => ⟨p, hp, ⟨i0, hil⟩, q, hq, ⟨i0, by omega⟩, _, c1, _, d1, spec.theodolitekeep_Ints c2 d2 ⟨fun hne => bad fun e => hne ?_, fun hv => hK5 _ _ ⟨⟨by omega, by omega⟩, ⟨rfl, by omega, by omega, ?_⟩, by dsimp only; omega⟩⟩⟩⟩
    · rw [decide_eq_true_eq]; exact congrArg Prod.snd e
    · rw [show (i + 1).toNat = i.toNat + 1 by omega, List.take_add_one, List.take_add_one, hr, hr', List.map_append, List.map_append, hsame]
      have : r.pr = r'.pr := by
        unfold Rw.pr
        rw [hid, of_decide_eq_true hv]
      simp [this]
  · have hil : i.toNat = a.length := by
      have : ¬ i < (s.n : Int) := hig
      omega
    rw [List.take_of_length_le (by omega), List.take_of_length_le (by omega)] at hsame
    exact key true (decide_eq_true hsame)

end Go.Proofs.YtpbelkpfljhjlaaGreatDoor

/- VcOwn2 -/
namespace Go.Proofs.YtpbelkpfljhjlaaGreatDoor

def rowsS (s : Sl) (ls : List Rw) : List Sl := s :: ls.map (·.s)

theorem spec.theodolitekeep_SpoilRows {s : Sl} {ls : List Rw} {u0 u : H} {K : H → Prop} (h : RowsO u0 u s ls) (hK : ∀ u', u0.le u' → Keep (rowsS s ls) u u' → K u') : C.theodolitekeep_SpoilRows s u K := by
  have hsn := h.rws.len
  have hsx := h.rws.max
  apply vc.theodolitekeep_SpoilRows
  have hfr : ∀ g, s.blk = some g → u0 g = none := h.own.fresh
  refine ⟨fun i w => 0 ≤ i ∧ i ≤ ls.length ∧ OwnF u0 w 43 2 s ((List.replicate i.toNat (⟨0, ⟨none, 0, 0⟩, []⟩ : Rw) ++ ls.drop i.toNat).flatMap encR) ∧ (∀ r ∈ ls.drop i.toNat, OwnF u0 w 3 1 r.s (r.v.flatMap encI)) ∧ Keep (rowsS s ls) u w,
    fun i _ => ls.length - i.toNat, ⟨by omega, by omega, by simpa using h.own, by simpa using h.inner, Keep.refl _ _⟩, ?_⟩
  rintro i w ⟨i0, i1, ho, hin, hkp⟩
  refine ⟨fun hil => ?_, fun hig => hK w ho.le hkp⟩
  have hi : i.toNat < ls.length := by omega
  obtain ⟨r, hr⟩ : ∃ r, ls[i.toNat]? = some r := ⟨_, List.getElem?_eq_getElem hi⟩
  have hrm : r ∈ ls := List.mem_of_getElem? hr
  have hdrop : ls.drop i.toNat = r :: ls.drop (i.toNat + 1) := by
    rw [List.drop_eq_getElem_cons hi]
    rw [List.getElem?_eq_getElem hi] at hr
    rw [Option.some.inj hr]
  have hget : (List.replicate i.toNat (⟨0, ⟨none, 0, 0⟩, []⟩ : Rw) ++ ls.drop i.toNat)[i.toNat]? = some r := by
    rw [hdrop]
    have := get_mid (List.replicate i.toNat (⟨0, ⟨none, 0, 0⟩, []⟩ : Rw)) r (ls.drop (i.toNat + 1))
    simp
  have hor : OwnF u0 w 3 1 r.s (r.v.flatMap encI) := hin r (by rw [hdrop]; exact .head _)
  have hsr : ∀ g, s.blk = some g → r.s.blk ≠ some g := h.far r hrm
  have rowcell : ∀ {w2 : H}, OwnF u0 w2 43 2 s ((List.replicate i.toNat (⟨0, ⟨none, 0, 0⟩, []⟩ : Rw) ++ ls.drop i.toNat).flatMap encR) → ∃ p, s.a = some p ∧ w2.cell? ((p.add (i.toNat * 2)).add 1) = some (.slice r.s.a r.s.n r.s.c) := fun hw2 => by
    obtain ⟨p, hp, hc⟩ := Seg.elem encR_len (by decide) hw2.own.seg hget
    exact ⟨p, hp, hc 1 _ rfl⟩
  refine ⟨fun k w2 => 0 ≤ k ∧ k ≤ r.v.length ∧ OwnF u0 w2 43 2 s ((List.replicate i.toNat (⟨0, ⟨none, 0, 0⟩, []⟩ : Rw) ++ ls.drop i.toNat).flatMap encR) ∧ (∀ r' ∈ ls.drop (i.toNat + 1), OwnF u0 w2 3 1 r'.s (r'.v.flatMap encI)) ∧
      (∃ v' : List Int, v'.length = r.v.length ∧ OwnF u0 w2 3 1 r.s (v'.flatMap encI)) ∧ Keep (rowsS s ls) u w2, fun k _ => r.v.length - k.toNat,
    ⟨by omega, by omega, ho, fun r' hr' => hin r' (by rw [hdrop]; exact .tail _ hr'), ⟨r.v, rfl, hor⟩, hkp⟩, ?_⟩
  rintro k w2 ⟨k0, k1, ho2, hin2, ⟨v', hv', hov⟩, hkp2⟩
  obtain ⟨p, hp, hc⟩ := rowcell ho2
  have hvn := hov.ints.len
  have hvx := hov.ints.max
  refine ⟨p, hp, ⟨i0, hil⟩, r.s, hc, fun hkl => ?_, fun hkg => ?_⟩
  · obtain ⟨q, hq, hcq⟩ := hov.ints.at k0 hkl
    refine ⟨p, hp, ⟨i0, hil⟩, p, hp, ⟨i0, hil⟩, r.s, hc, r.s, hc, q, hq, ⟨k0, hkl⟩, _, hcq, q, hq, ⟨k0, hkl⟩, ?_⟩
    refine OwnF.store (enc := encI) encI_len hov (by decide) (i := k.toNat) (by omega) (y := bits .xor .i64 (v'.getD k.toNat 0) 60) (encI_one _) hq fun w3 ho3 he3 _ => ⟨⟨by omega, by omega⟩, ⟨by omega, by omega, ?_, fun r' hr' => ?_, ⟨_, by simpa using hv', ho3⟩, hkp2.trans (he3.keep (by simp [rowsS]; exact .inr ⟨r, hrm, rfl⟩))⟩, by dsimp only; omega⟩
    · exact OwnF.else (e := 0) ho2 he3 (fun g hg => hov.fresh g hg) fun g hg e => hsr g e hg
    · have hmem : r' ∈ ls := List.mem_of_mem_drop hr'
      refine OwnF.else (e := 0) (hin2 r' hr') he3 (fun g hg => hov.fresh g hg) fun g hg => ?_
      have hpw := h.apart
      rw [← List.take_append_drop i.toNat ls, hdrop] at hpw
      have h2 := (List.pairwise_cons.1 (List.pairwise_append.1 hpw).2.1).1 r' hr'
      exact h2 g hg
  · refine ⟨p, hp, ⟨i0, hil⟩, ?_⟩
    refine OwnF.store (enc := encR) encR_len ho2 (by decide) (i := i.toNat) (by simp; omega) (y := ⟨0, ⟨none, 0, 0⟩, []⟩) (encR_one _) hp fun w3 ho3 he3 _ => ⟨⟨by omega, by omega⟩, ⟨by omega, by omega, ?_, fun r' hr' => ?_, hkp2.trans (he3.keep (by simp [rowsS]))⟩, by dsimp only; omega⟩
    · have hset : (List.replicate i.toNat (⟨0, ⟨none, 0, 0⟩, []⟩ : Rw) ++ ls.drop i.toNat).set i.toNat ⟨0, ⟨none, 0, 0⟩, []⟩ = List.replicate (i + 1).toNat (⟨0, ⟨none, 0, 0⟩, []⟩ : Rw) ++ ls.drop (i + 1).toNat := by
        rw [hdrop]
        have := set_mid (List.replicate i.toNat (⟨0, ⟨none, 0, 0⟩, []⟩ : Rw)) r ⟨0, ⟨none, 0, 0⟩, []⟩ (ls.drop (i.toNat + 1))
        rw [List.length_replicate] at this
        rw [this, show (i + 1).toNat = i.toNat + 1 by omega, List.replicate_succ']
        simp
      rw [hset] at ho3
      exact ho3
    · rw [show (i + 1).toNat = i.toNat + 1 by omega] at hr'
      have hmem : r' ∈ ls := List.mem_of_mem_drop hr'
      exact OwnF.else (e := 0) (hin2 r' hr') he3 hfr fun g hg => h.far r' hmem g hg

end Go.Proofs.YtpbelkpfljhjlaaGreatDoor

/- VcTable -/
namespace Go.Proofs.YtpbelkpfljhjlaaGreatDoor

/-- A table in block n. -/
structure TabAt (u : H) (n : Nat) (dim : Int) (L : List Rw) : Prop where
  ex : ∃ (s : Sl) (v : H), u n = some (.cells #[.int .i64 dim, .slice s.a s.n s.c] 83 (0, 0)) ∧ v.le u ∧ v n = none ∧ Rws v s L
  srt : L.Pairwise fun a b => a.id < b.id

theorem TabAt.keep {u u' : H} {n : Nat} {dim : Int} {L : List Rw} (h : TabAt u n dim L) (hu : u.le u') : TabAt u' n dim L := by
  obtain ⟨s, v, h1, h2, h3, h4⟩ := h.ex
  exact ⟨⟨s, v, hu _ _ h1, h2.trans hu, h3, h4⟩, h.srt⟩

abbrev Pr := Int × List Int

def tputP (P : List Pr) (id : Int) (v : List Int) : List Pr := P.filter (fun p => decide (p.1 < id)) ++ (id, v) :: P.filter (fun p => decide (id < p.1))
def tdelP (P : List Pr) (id : Int) : List Pr := P.filter fun p => p.1 != id

theorem srt_split {L : List Rw} (hs : L.Pairwise fun a b => a.id < b.id) {id : Int} {k : Nat} (hk : k ≤ L.length) (h1 : ∀ (i : Nat) r, i < k → L[i]? = some r → r.id < id) (h2 : ∀ r, L[k]? = some r → id ≤ r.id) :
    L.take k = L.filter (fun r => decide (r.id < id)) ∧ (∀ r, L[k]? = some r → r.id ≠ id → L.drop k = L.filter (fun r => decide (id < r.id)) ∧ ∀ r ∈ L, r.id ≠ id) ∧ (L.length ≤ k → L.filter (fun r => decide (id < r.id)) = [] ∧ ∀ r ∈ L, r.id ≠ id) ∧
    (∀ r, L[k]? = some r → r.id = id → L.drop (k + 1) = L.filter (fun r => decide (id < r.id))) := by
  have hA : ∀ r ∈ L.take k, r.id < id := fun r hr => by
    obtain ⟨i, hi, rfl⟩ := List.mem_iff_getElem.1 hr
    simp only [List.length_take] at hi
    exact h1 i _ (by omega) (by rw [List.getElem_take]; exact List.getElem?_eq_getElem (by omega))
  have hB : ∀ r ∈ L.drop k, id ≤ r.id := fun r hr => by
    obtain ⟨i, hi, rfl⟩ := List.mem_iff_getElem.1 hr
    simp only [List.length_drop] at hi
    have hk' : k < L.length := by omega
    have h0 := h2 _ (List.getElem?_eq_getElem hk')
    rw [List.getElem_drop]
    rcases Nat.eq_zero_or_pos i with rfl | hp
    · exact h0
    · have := List.pairwise_iff_getElem.1 hs k (k + i) hk' (by omega) (by omega)
      omega
  have hL : L = L.take k ++ L.drop k := (List.take_append_drop k L).symm
  have e1 : L.filter (fun r => decide (r.id < id)) = L.take k := by
    conv => lhs; rw [hL]
    rw [List.filter_append, List.filter_eq_self.2 fun r hr => by simpa using hA r hr, List.filter_eq_nil_iff.2 fun r hr => by have := hB r hr; simp; omega, List.append_nil]
  have e2 : L.filter (fun r => decide (id < r.id)) = (L.drop k).filter (fun r => decide (id < r.id)) := by
    conv => lhs; rw [hL]
    rw [List.filter_append, List.filter_eq_nil_iff.2 fun r hr => by have := hA r hr; simp; omega, List.nil_append]
  have hC : ∀ r, L[k]? = some r → ∀ r' ∈ L.drop (k + 1), r.id < r'.id := fun r hr r' hr' => by
    obtain ⟨hk', rfl⟩ := List.getElem?_eq_some_iff.1 hr
    obtain ⟨i, hi, rfl⟩ := List.mem_iff_getElem.1 hr'
    simp only [List.length_drop] at hi
    rw [List.getElem_drop]
    exact List.pairwise_iff_getElem.1 hs k (k + 1 + i) hk' (by omega) (by omega)
  refine ⟨e1.symm, fun r hr hne => ?_, fun hl => ?_, fun r hr he => ?_⟩
  · obtain ⟨hk', hrk⟩ := List.getElem?_eq_some_iff.1 hr
    have hge := h2 r hr
    have hall : ∀ r' ∈ L.drop k, id < r'.id := fun r' hr' => by
      rw [List.drop_eq_getElem_cons hk', hrk] at hr'
      rcases List.mem_cons.1 hr' with rfl | hr'
      · omega
      · have := hC r hr r' hr'; omega
    refine ⟨by rw [e2, List.filter_eq_self.2 fun r hr => by simpa using hall r hr], fun r' hr' => ?_⟩
    rw [hL] at hr'
    rcases List.mem_append.1 hr' with h3 | h3
    · have := hA r' h3; omega
    · have := hall r' h3; omega
  · have : L.drop k = [] := List.drop_eq_nil_of_le hl
    refine ⟨by rw [e2, this]; rfl, fun r' hr' => ?_⟩
    rw [hL, this, List.append_nil] at hr'
    have := hA r' hr'; omega
  · obtain ⟨hk', hrk⟩ := List.getElem?_eq_some_iff.1 hr
    rw [e2, List.drop_eq_getElem_cons hk', hrk, List.filter_cons]
    have : decide (id < r.id) = false := by simp; omega
    rw [this]
    simp only [Bool.false_eq_true, if_false]
    rw [List.filter_eq_self.2 fun r' hr' => by have := hC r hr r' hr'; simp; omega]

theorem pr_filter (L : List Rw) (f : Pr → Bool) : (L.filter fun r => f r.pr).map Rw.pr = (L.map Rw.pr).filter f := by
  rw [List.filter_map]; rfl

theorem pr_lt (L : List Rw) (id : Int) : (L.filter fun r => decide (r.id < id)).map Rw.pr = (L.map Rw.pr).filter fun p => decide (p.1 < id) := pr_filter L fun p => decide (p.1 < id)
theorem pr_gt (L : List Rw) (id : Int) : (L.filter fun r => decide (id < r.id)).map Rw.pr = (L.map Rw.pr).filter fun p => decide (id < p.1) := pr_filter L fun p => decide (id < p.1)

theorem srt_take {L : List Rw} (hs : L.Pairwise fun a b => a.id < b.id) {r : Rw} : (L.filter (fun x => decide (x.id < r.id)) ++ r :: L.filter (fun x => decide (r.id < x.id))).Pairwise fun a b => a.id < b.id := by
  refine List.pairwise_append.2 ⟨hs.sublist List.filter_sublist, List.pairwise_cons.2 ⟨fun x hx => by simpa using (List.mem_filter.1 hx).2, hs.sublist List.filter_sublist⟩, fun a ha b hb => ?_⟩
  have h1 : a.id < r.id := by simpa using (List.mem_filter.1 ha).2
  rcases List.mem_cons.1 hb with rfl | hb
  · exact h1
  · have h2 : r.id < b.id := by simpa using (List.mem_filter.1 hb).2
    omega

/-- A table's slice stored. -/
theorem st_tab {u : H} {n : Nat} {dim : Int} {s s' : Sl} {f : H → Prop} (hn : u n = some (.cells #[.int .i64 dim, .slice s.a s.n s.c] 83 (0, 0))) (hf : f (u.ins n (.cells #[.int .i64 dim, .slice s'.a s'.n s'.c] 83 (0, 0)))) :
    H.St u ((Addr.mk n 0 none).add 1) [.slice s'.a s'.n s'.c] f := by
  rw [add1]
  refine ⟨_, _, hn, rfl, by simp, by simp [Value.oneCell'], ?_⟩
  have : wr #[.int .i64 dim, .slice s.a s.n s.c] 1 [.slice s'.a s'.n s'.c] = #[.int .i64 dim, .slice s'.a s'.n s'.c] := by simp [wr]
  simp only [this]
  exact hf

theorem Rws.nil (u : H) : Rws u ⟨none, 0, 0⟩ [] := ⟨⟨rfl, Nat.le_refl _, by decide, .inl rfl⟩, fun _ h => by cases h⟩

/-- The table's new rows, put together: those ahead, one perhaps, those behind. -/
theorem tab_new {u uE : H} {n : Nat} {dim : Int} {s s' : Sl} {v : H} {L' : List Rw} (hu : u.le uE) (hn : u n = some (.cells #[.int .i64 dim, .slice s.a s.n s.c] 83 (0, 0))) (hv : v.le u) (hvn : v n = none)
    (ho : OwnF u uE 43 2 s' (L'.flatMap encR)) (hin : ∀ r ∈ L', Ints v r.s r.v ∨ (Ints uE r.s r.v ∧ ∀ g, r.s.blk = some g → u g = none)) (hs : L'.Pairwise fun a b => a.id < b.id) :
    TabAt (uE.ins n (.cells #[.int .i64 dim, .slice s'.a s'.n s'.c] 83 (0, 0))) n dim L' ∧ ∀ c o, u c = some o → c ≠ n → (uE.ins n (.cells #[.int .i64 dim, .slice s'.a s'.n s'.c] 83 (0, 0))) c = some o := by
  let w : H := fun c => if c = n then none else uE c
  have w1 : w n = none := if_pos rfl
  have w2 : ∀ c, c ≠ n → w c = uE c := fun c hc => if_neg hc
  have hg : ∀ g, s'.blk = some g → g ≠ n := fun g hg e => by have := ho.fresh g hg; rw [e, hn] at this; cases this
  refine ⟨⟨⟨s', w, H.ins_same _ _ _, fun c o hc => ?_, w1, ?_, fun r hr => ?_⟩, hs⟩, fun c o hc hne => by rw [H.ins_other _ _ hne]; exact hu c o hc⟩
  · by_cases e : c = n
    · rw [e, w1] at hc; cases hc
    · rw [w2 c e] at hc; rw [H.ins_other _ _ e]; exact hc
  · exact Seg.else ho.own.seg fun g o h1 h2 => by rw [w2 g (hg g h1)]; exact h2
  · rcases hin r hr with h1 | ⟨h1, h2⟩
    · refine Ints.mono h1 fun c o hc => ?_
      have : c ≠ n := fun e => by rw [e, hvn] at hc; cases hc
      rw [w2 c this]; exact hu c o (hv c o hc)
    · refine Seg.else h1 fun g o h3 h4 => ?_
      have : g ≠ n := fun e => by have := h2 g h3; rw [e, hn] at this; cases this
      rw [w2 g this]; exact h4

theorem spec.theodoliteref05_Table__Delete {u : H} {n : Nat} {dim id : Int} {L : List Rw} {K : Bool → H → Prop} (h : TabAt u n dim L) (hl : L.length ≤ 1000000)
    (hno : (∀ r ∈ L, r.id ≠ id) → K false u) (hyes : (∃ r ∈ L, r.id = id) → ∀ u' L', TabAt u' n dim L' → L'.map Rw.pr = tdelP (L.map Rw.pr) id → (∀ c o, u c = some o → c ≠ n → u' c = some o) → K true u') : C.theodoliteref05_Table__Delete (some ⟨n, 0, none⟩) id u K := by
  obtain ⟨s, v, hn, hv, hvn, hR⟩ := h.ex
  have hR' := hR.mono hv
  have hsn := hR'.len
  have hsx := hR'.max
  have c1 : u.cell? ((Addr.mk n 0 none).add 1) = some (.slice s.a s.n s.c) := by rw [add1]; exact H.cell?_of hn 1
  have hcap := Seg.cap hR'.1
  apply vc.theodoliteref05_Table__Delete
  refine ⟨_, rfl, s, c1, spec.theodoliteref05_find hR' (fun i r hr hid => ⟨fun h0 => by omega, fun _ => ?_⟩) fun hne => ⟨fun _ => hno hne, fun h0 => absurd (by decide) h0⟩⟩
  have hil : i < L.length := (List.getElem?_eq_some_iff.1 hr).1
  refine ⟨_, rfl, s, c1, ?_⟩
  refine sem_slice (P := Tryz.prog) tRows (l := 0) (h := i) (m := s.c) (.inl ⟨rfl, rfl⟩) (.inr rfl) (.inl ⟨rfl, rfl⟩) (by omega) (by omega) (Nat.le_refl _) hcap ?_
  have hA := hR'.part (l := 0) (h := i) (m := s.c) (by omega) (by omega) (by omega) (Nat.le_refl _)
  simp only [List.drop_zero, Nat.sub_zero] at hA
  have hAn : (s.part 0 i s.c 2).n = i := by simp [Sl.part]
  have hmR : ∀ (M : List Rw), ∀ y ∈ M.flatMap encR, y.oneCell' = true := fun M y hy => by
    obtain ⟨r, _, hr⟩ := List.mem_flatMap.1 hy
    exact encR_one r y hr
  have hnilO : OwnF u u 43 2 ⟨none, 0, 0⟩ [] := OwnF.nil (H.le.refl u) 43 2
  refine sem_appendF (s := ⟨none, 0, 0⟩) (x := s.part 0 i s.c 2) tRows (by decide) hnilO hA.1 (hmR _) (by rw [hAn]; show 0 + i ≤ _; omega) (by rw [hAn]; show (0 + i) * 32 ≤ _; omega) fun s8 u9 ho8 hn8 => ⟨_, rfl, s, by rw [add1]; exact H.cell?_of (ho8.le _ _ hn) 1, ⟨by omega, by omega⟩, ?_⟩
  have hR9 := hR'.mono ho8.le
  refine sem_slice (P := Tryz.prog) tRows (l := i + 1) (h := s.n) (m := s.c) (.inr rfl) (.inl ⟨rfl, rfl⟩) (.inl ⟨rfl, rfl⟩) (by omega) hcap (Nat.le_refl _) hcap ?_
  have hB := hR9.part (l := i + 1) (h := s.n) (m := s.c) (by omega) (Nat.le_refl _) hcap (Nat.le_refl _)
  rw [List.take_of_length_le (by simp; omega)] at hB
  have hBn : (s.part (i + 1) s.n s.c 2).n = s.n - (i + 1) := rfl
  rw [hAn] at hn8
  have hn8' : s8.n = i := by rw [hn8]; exact Nat.zero_add i
  refine sem_appendF (s := s8) (x := s.part (i + 1) s.n s.c 2) tRows (by decide) ho8 hB.1 (hmR _) (by rw [hBn]; omega) (by rw [hBn]; omega) fun s14 u15 ho14 _ => ⟨_, rfl, st_tab (ho14.le _ _ hn) ?_⟩
  rw [List.nil_append, ← List.flatMap_append] at ho14
  have hsub : (L.take i ++ L.drop (i + 1)).Sublist L := by
    have := (List.eraseIdx_sublist L i)
    rw [List.eraseIdx_eq_take_drop_succ] at this
    exact this
  obtain ⟨k1, k2⟩ := tab_new ho14.le hn hv hvn ho14 (fun r' hr' => .inl (hR.2 r' (hsub.mem hr'))) (h.srt.sublist hsub)
  refine hyes ⟨r, List.mem_of_getElem? hr, hid⟩ _ _ k1 ?_ k2
  obtain ⟨e1, _, _, e4⟩ := srt_split h.srt (id := id) (k := i) (by omega) (fun j r' hj hr' => by
    obtain ⟨h1, rfl⟩ := List.getElem?_eq_some_iff.1 hr'
    obtain ⟨h2, h3⟩ := List.getElem?_eq_some_iff.1 hr
    have := List.pairwise_iff_getElem.1 h.srt j i h1 h2 hj
    rw [h3] at this; omega) (fun r' hr' => by rw [hr] at hr'; cases hr'; omega)
  rw [e1, e4 r hr hid, List.map_append]
  rw [pr_lt, pr_gt]
  unfold tdelP
  -- both parts of a rising list
  have hsp : (L.map Rw.pr).Pairwise fun a b => a.1 < b.1 := List.pairwise_map.2 h.srt
  generalize L.map Rw.pr = P at hsp
  clear e1 e4 k1 k2 ho14
  induction P with
  | nil => rfl
  | cons p P ih =>
    obtain ⟨hp, hP⟩ := List.pairwise_cons.1 hsp
    have := ih hP
    rcases Int.lt_trichotomy p.1 id with h1 | h1 | h1
    · have a1 : decide (p.1 < id) = true := by simpa using h1
      have a2 : decide (id < p.1) = false := by simp; omega
      have a3 : (p.1 != id) = true := by simp; omega
      simp only [List.filter_cons, a1, a2, a3, if_true, Bool.false_eq_true, if_false, List.cons_append]
      rw [this]
    · have a1 : decide (p.1 < id) = false := by simp; omega
      have a2 : decide (id < p.1) = false := by simp; omega
      have a3 : (p.1 != id) = false := by simp; omega
      simp only [List.filter_cons, a1, a2, a3, Bool.false_eq_true, if_false]
      exact this
    · have a1 : decide (p.1 < id) = false := by simp; omega
      have a2 : decide (id < p.1) = true := by simpa using h1
      have a3 : (p.1 != id) = true := by simp; omega
      have nil : P.filter (fun p => decide (p.1 < id)) = [] := List.filter_eq_nil_iff.2 fun x hx => by have := hp x hx; simp; omega
      rw [nil] at this
      simp only [List.filter_cons, a1, a2, a3, if_true, Bool.false_eq_true, if_false, nil, List.nil_append]
      rw [← this, List.nil_append]

theorem spec.theodoliteref05_Table__Put {u : H} {n : Nat} {dim id : Int} {t : Sl} {q : List Int} {L : List Rw} {K : Bool → Int → H → Prop} (h : TabAt u n dim L) (hl : L.length ≤ 1000000) (ht : Ints u t q)
    (hbad : mayErr id q dim (decide (id ∈ L.map (·.id))) L.length ≠ 0 → K false (mayErr id q dim (decide (id ∈ L.map (·.id))) L.length) u)
    (hok : mayErr id q dim (decide (id ∈ L.map (·.id))) L.length = 0 → ∀ u' L', TabAt u' n dim L' → L'.map Rw.pr = tputP (L.map Rw.pr) id q → (∀ c o, u c = some o → c ≠ n → u' c = some o) → K (decide (id ∉ L.map (·.id))) 0 u') : C.theodoliteref05_Table__Put (some ⟨n, 0, none⟩) id t u K := by
  obtain ⟨s, v, hn, hv, hvn, hR⟩ := h.ex
  have hR' := hR.mono hv
  have hsn := hR'.len
  have hsx := hR'.max
  have c0 : u.cell? ⟨n, 0, none⟩ = some (.int .i64 dim) := H.cell?_of hn 0
  have c1 : u.cell? ((Addr.mk n 0 none).add 1) = some (.slice s.a s.n s.c) := by rw [add1]; exact H.cell?_of hn 1
  have hcap := Seg.cap hR'.1
  have hmR : ∀ (M : List Rw), ∀ y ∈ M.flatMap encR, y.oneCell' = true := fun M y hy => by
    obtain ⟨r, _, hr⟩ := List.mem_flatMap.1 hy
    exact encR_one r y hr
  have bad : ∀ z, mayErr id q dim (decide (id ∈ L.map (·.id))) L.length = z → z ≠ 0 → K false z u := fun z e hz => by
    subst e; exact hbad hz
  apply vc.theodoliteref05_Table__Put
  refine spec.theodoliteref03_Id ⟨fun hno => bad 50 ?_ (by decide), fun hid => ?_⟩
  · have : ¬ (1 ≤ id ∧ id ≤ 1000000000) := by simpa using hno
    unfold mayErr; rw [if_pos (by omega)]
  have hid1 : 1 ≤ id ∧ id ≤ 1000000000 := by simpa using hid
  have hnid : ¬ (id < 1 ∨ 1000000000 < id) := by omega
  refine ⟨_, rfl, dim, c0, spec.theodoliteref03_Check ht ⟨fun hne => bad _ ?_ hne, fun he => ?_⟩⟩
  · unfold mayErr; rw [if_neg hnid, if_pos hne]
  intro K6 hK6
  -- where it belongs
  have found : ∀ k : Nat, k ≤ L.length → (∀ (i : Nat) r, i < k → L[i]? = some r → r.id < id) → (∀ r, L[k]? = some r → id ≤ r.id) → K6 k u := by
    intro k hk h1 h2
    obtain ⟨e1, e2, e3, e4⟩ := srt_split h.srt hk h1 h2
    refine hK6 _ _ fun K9 hK9 => ?_
    -- behind the question whether it is fresh
    have fresh : ∀ bb : Bool, (bb = true ↔ id ∉ L.map (·.id)) → (bb = false → ∃ r, L[k]? = some r ∧ r.id = id) → (bb = true → L.drop k = L.filter (fun r => decide (id < r.id))) → K9 bb u := by
      intro bb hbb hbf hbt
      refine hK9 _ _ fun K12 hK12 => ?_
      have put : (bb = true → L.length < 512) → ∀ b13 x14, K12 b13 x14 u := by
        intro hsm b13 x14
        refine hK12 _ _ _ ⟨_, rfl, s, c1, ?_⟩
        refine sem_slice (P := Tryz.prog) tRows (l := k) (h := s.n) (m := s.c) (.inr rfl) (.inl ⟨rfl, rfl⟩) (.inl ⟨rfl, rfl⟩) (by omega) hcap (Nat.le_refl _) hcap ?_
        intro K20 hK20
        -- the rest, whichever it is
        have rest : ∀ (s21 : Sl), Rws u s21 (L.filter fun r => decide (id < r.id)) → s21.n ≤ L.length → K20 s21 u := by
          intro s21 h21 h21n
          have hqn := ht.len
          have hqm : q.length ≤ 64 := by
            have := vcheck_ok he
            omega
          have hnI : OwnF u u 3 1 ⟨none, 0, 0⟩ [] := OwnF.nil (H.le.refl u) 3 1
          have hseg : Seg u t 1 (q.flatMap encI) := by have := ht; unfold Ints at this; rw [← flatI] at this; exact this
          refine hK20 _ _ (sem_appendF (s := ⟨none, 0, 0⟩) (x := t) tInts (by decide) hnI hseg (fun y hy => by
            obtain ⟨r, _, hr⟩ := List.mem_flatMap.1 hy
            exact encI_one r y hr) (by show 0 + t.n ≤ _; omega) (by show (0 + t.n) * 8 ≤ _; omega) fun s23 u24 ho23 _ => ?_)
          rw [List.nil_append] at ho23
          have hn24 := ho23.le _ _ hn
          refine ⟨_, rfl, s, by rw [add1]; exact H.cell?_of hn24 1, ?_⟩
          refine sem_slice (P := Tryz.prog) tRows (l := 0) (h := k) (m := s.c) (.inl ⟨rfl, rfl⟩) (.inr rfl) (.inl ⟨rfl, rfl⟩) (by omega) (by omega) (Nat.le_refl _) hcap ?_
          have hA := (hR'.mono ho23.le).part (l := 0) (h := k) (m := s.c) (by omega) (by omega) (by omega) (Nat.le_refl _)
          simp only [List.drop_zero, Nat.sub_zero] at hA
          have hAn : (s.part 0 k s.c 2).n = k := by simp [Sl.part]
          have hnR : OwnF u24 u24 43 2 ⟨none, 0, 0⟩ [] := OwnF.nil (H.le.refl u24) 43 2
          refine sem_appendF (s := ⟨none, 0, 0⟩) (x := s.part 0 k s.c 2) tRows (by decide) hnR hA.1 (hmR _) (by rw [hAn]; show 0 + k ≤ _; omega) (by rw [hAn]; show (0 + k) * 32 ≤ _; omega) fun s29 u30 ho29 hn29 => ?_
          rw [hAn] at hn29
          have hn29' : s29.n = k := by rw [hn29]; exact Nat.zero_add k
          rw [List.nil_append] at ho29
          refine sem_push' tRows (build_row1 id s23) (by decide) rfl (by simp [Value.oneCell']) ho29 (by omega) (by omega) fun s33 u34 ho33 hn33 _ _ _ => ?_
          have hfl : (L.take k).flatMap encR ++ [.int .i64 id, .slice s23.a s23.n s23.c] = (L.take k ++ [(⟨id, s23, q⟩ : Rw)]).flatMap encR := by simp [encR]
          rw [hfl] at ho33
          have hle34 : u.le u34 := ho23.le.trans ho33.le
          refine sem_appendF (s := s33) (x := s21) tRows (by decide) ho33 (h21.mono hle34).1 (hmR _) (by omega) (by omega) fun s35 u36 ho35 _ => ⟨_, rfl, st_tab (ho35.le _ _ hn24) ?_⟩
          rw [← List.flatMap_append] at ho35
          have hL' : L.take k ++ [(⟨id, s23, q⟩ : Rw)] ++ L.filter (fun r => decide (id < r.id)) = L.filter (fun x => decide (x.id < id)) ++ ⟨id, s23, q⟩ :: L.filter (fun x => decide (id < x.id)) := by rw [e1]; simp
          rw [hL'] at ho35
          have hsrt := srt_take h.srt (r := (⟨id, s23, q⟩ : Rw))
          have hle36 : u.le u36 := ho23.le.trans ho35.le
          have hin : ∀ r ∈ L.filter (fun x => decide (x.id < id)) ++ (⟨id, s23, q⟩ : Rw) :: L.filter (fun x => decide (id < x.id)), Ints v r.s r.v ∨ (Ints u36 r.s r.v ∧ ∀ g, r.s.blk = some g → u g = none) := fun r hr => by
            rcases List.mem_append.1 hr with hr | hr
            · exact .inl (hR.2 r (List.mem_filter.1 hr).1)
            · rcases List.mem_cons.1 hr with rfl | hr
              · exact .inr ⟨(ho23.mono ho35.le).ints, fun g hg => ho23.fresh g hg⟩
              · exact .inl (hR.2 r (List.mem_filter.1 hr).1)
          obtain ⟨k1, k2⟩ := tab_new hle36 hn hv hvn (ho35.weaken ho23.le) hin hsrt
          have hmay : mayErr id q dim (decide (id ∈ L.map (·.id))) L.length = 0 := by
            unfold mayErr
            rw [if_neg hnid, if_neg (by simpa using he), if_neg]
            rintro ⟨h5, h6⟩
            have h7 : id ∉ L.map (·.id) := by simpa using h5
            have := hsm (hbb.2 h7)
            omega
          have hbd : decide (id ∉ L.map (·.id)) = bb := by
            cases bb with
            | true => exact decide_eq_true (hbb.1 rfl)
            | false => exact decide_eq_false fun h5 => by have := hbb.2 h5; cases this
          have := hok hmay _ _ k1 (by
            rw [List.map_append, List.map_cons, pr_lt, pr_gt]
            rfl) k2
          rw [hbd] at this
          exact this
        refine ⟨fun hb => ?_, fun hb => ?_⟩
        · have hbf' : bb = false := by simpa using hb
          obtain ⟨r, hr, hrid⟩ := hbf hbf'
          have hkl : k < L.length := (List.getElem?_eq_some_iff.1 hr).1
          refine ⟨_, rfl, s, c1, ⟨by omega, by omega⟩, ?_⟩
          refine sem_slice (P := Tryz.prog) tRows (l := k + 1) (h := s.n) (m := s.c) (.inr rfl) (.inl ⟨rfl, rfl⟩) (.inl ⟨rfl, rfl⟩) (by omega) hcap (Nat.le_refl _) hcap ?_
          have hB := hR'.part (l := k + 1) (h := s.n) (m := s.c) (by omega) (Nat.le_refl _) hcap (Nat.le_refl _)
          rw [List.take_of_length_le (by simp; omega), e4 r hr hrid] at hB
          exact rest _ hB (by show s.n - (k + 1) ≤ _; omega)
        · have hB := hR'.part (l := k) (h := s.n) (m := s.c) (by omega) (Nat.le_refl _) hcap (Nat.le_refl _)
          rw [List.take_of_length_le (by simp; omega), hbt hb] at hB
          exact rest _ hB (by show s.n - k ≤ _; omega)
      refine ⟨fun hb => ⟨_, rfl, s, c1, fun hmany => bad 2 ?_ (by decide), fun hfew => put (fun _ => by omega) _ _⟩, fun hb => put (fun h5 => by rw [hb] at h5; cases h5) _ _⟩
      have h7 : id ∉ L.map (·.id) := hbb.1 hb
      unfold mayErr
      rw [if_neg hnid, if_neg (by simpa using he), if_pos ⟨decide_eq_false h7, by omega⟩]
    have nin : (∀ r ∈ L, r.id ≠ id) → id ∉ L.map (·.id) := fun h5 hm => by
      obtain ⟨r, hr, e⟩ := List.mem_map.1 hm
      exact h5 r hr e
    refine ⟨_, rfl, s, c1, fun hke => ?_, fun hke => ?_⟩
    · have hkl : L.length ≤ k := by omega
      obtain ⟨f1, f2⟩ := e3 hkl
      exact fresh true ⟨fun _ => nin f2, fun _ => rfl⟩ (fun h5 => by cases h5) fun _ => by rw [f1, List.drop_eq_nil_of_le hkl]
    · have hkl : k < L.length := by omega
      obtain ⟨p, hp, r, hr, d0, d1, d2⟩ := hR'.at (x := (k : Int)) (by omega) (by omega)
      rw [Int.toNat_natCast] at hr
      refine ⟨_, rfl, s, c1, p, hp, ⟨by omega, by omega⟩, _, d0, ?_⟩
      by_cases hrid : r.id = id
      · have : (!decide (r.id = id)) = false := by simp [hrid]
        rw [this]
        exact fresh false ⟨fun h5 => (by cases h5), fun h5 => absurd (List.mem_map.2 ⟨r, List.mem_of_getElem? hr, hrid⟩) h5⟩ (fun _ => ⟨r, hr, hrid⟩) fun h5 => by cases h5
      · have : (!decide (r.id = id)) = true := by simp [hrid]
        rw [this]
        obtain ⟨f1, f2⟩ := e2 r hr hrid
        exact fresh true ⟨fun _ => nin f2, fun _ => rfl⟩ (fun h5 => by cases h5) fun _ => f1
  refine ⟨fun i w => w = u ∧ 0 ≤ i ∧ i ≤ L.length ∧ ∀ (j : Nat) r, j < i.toNat → L[j]? = some r → r.id < id, fun i _ => L.length - i.toNat, ⟨rfl, by omega, by omega, fun j r hj => by simp at hj⟩, ?_⟩
  rintro i w ⟨rfl, i0, i1, hbef⟩
  intro K55 hK55
  refine ⟨_, rfl, s, c1, fun hil => ?_, fun hig => ?_⟩
  · obtain ⟨p, hp, r, hr, d0, d1, d2⟩ := hR'.at i0 hil
    refine ⟨_, rfl, s, c1, p, hp, ⟨i0, hil⟩, _, d0, fun hlt => hK55 _ ⟨⟨by omega, by omega⟩, ⟨rfl, by omega, by omega, fun j r' hj hr' => ?_⟩, by dsimp only; omega⟩, fun hge => ?_⟩
    · by_cases e : j = i.toNat
      · rw [e, hr] at hr'; cases hr'; exact hlt
      · exact hbef j r' (by omega) hr'
    · have := found i.toNat (by omega) hbef fun r' hr' => by rw [hr] at hr'; cases hr'; omega
      rw [Int.toNat_of_nonneg i0] at this
      exact this
  · have := found i.toNat (by omega) hbef fun r' hr' => by
      have := (List.getElem?_eq_some_iff.1 hr').1
      omega
    rw [Int.toNat_of_nonneg i0] at this
    exact this

end Go.Proofs.YtpbelkpfljhjlaaGreatDoor

/- VcTable2 -/
namespace Go.Proofs.YtpbelkpfljhjlaaGreatDoor

theorem tputP_perm {P : List Pr} {id : Int} (h : id ∉ P.map (·.1)) (v : List Int) : (tputP P id v).Perm ((id, v) :: P) := by
  unfold tputP
  refine List.perm_middle.trans (List.Perm.cons _ ?_)
  induction P with
  | nil => exact List.Perm.refl _
  | cons p P ih =>
    simp only [List.map_cons, List.mem_cons, not_or] at h
    have := ih h.2
    rcases Int.lt_trichotomy p.1 id with h1 | h1 | h1
    · have a1 : decide (p.1 < id) = true := by simpa using h1
      have a2 : decide (id < p.1) = false := by simp; omega
      simp only [List.filter_cons, a1, a2, if_true, Bool.false_eq_true, if_false, List.cons_append]
      exact List.Perm.cons _ this
    · exact absurd h1.symm h.1
    · have a1 : decide (p.1 < id) = false := by simp; omega
      have a2 : decide (id < p.1) = true := by simpa using h1
      simp only [List.filter_cons, a1, a2, if_true, Bool.false_eq_true, if_false]
      exact List.perm_middle.trans (List.Perm.cons _ this)

/-- Rising rows are told by what they are alone. -/
theorem pr_rise_eq {P Q : List Pr} (hp : P.Pairwise fun a b => a.1 < b.1) (hq : Q.Pairwise fun a b => a.1 < b.1) (h : P.Perm Q) : P = Q := by
  induction P generalizing Q with
  | nil => exact (List.eq_nil_of_length_eq_zero (by have := h.length_eq; simpa using this.symm)).symm
  | cons p P ih =>
    cases Q with
    | nil => have := h.length_eq; simp at this
    | cons q Q =>
      obtain ⟨h1, h2⟩ := List.pairwise_cons.1 hp
      obtain ⟨h3, h4⟩ := List.pairwise_cons.1 hq
      have e : p = q := by
        have hpq : p ∈ q :: Q := h.mem_iff.1 (.head _)
        have hqp : q ∈ p :: P := h.mem_iff.2 (.head _)
        rcases List.mem_cons.1 hpq with h5 | h5
        · exact h5
        · rcases List.mem_cons.1 hqp with h6 | h6
          · exact h6.symm
          · have := h3 p h5; have := h1 q h6; omega
      subst e
      rw [ih h2 h4 ((List.perm_cons p).1 h)]

theorem TabAt.rise {u : H} {n : Nat} {dim : Int} {L : List Rw} (h : TabAt u n dim L) : (L.map Rw.pr).Pairwise fun a b => a.1 < b.1 := List.pairwise_map.2 h.srt

theorem ids_pr (L : List Rw) : L.map (·.id) = (L.map Rw.pr).map (·.1) := by rw [List.map_map]; rfl

theorem spec.theodoliteref05_Of {s : Sl} {l : List Rw} {d : Int} {u : H} {K : Option Addr → H → Prop} (hs : Rws u s l) (hl : Rok l d) (hK : ∀ n u' L, u n = none → u.le u' → TabAt u' n d L → (L.map Rw.pr).Perm (l.map Rw.pr) → K (some ⟨n, 0, none⟩) u') : C.theodoliteref05_Of s d u K := by
  have hsn := hs.len
  have hlen := hl.len
  apply vc.theodoliteref05_Of
  intro n hn
  have hle := H.le_ins (u := u) (b := n) (.cells #[.int .i64 d, .slice none 0 0] 83 (0, 0)) hn
  refine ⟨fun i w => 0 ≤ i ∧ i ≤ l.length ∧ u.le w ∧ ∃ L, TabAt w n d L ∧ (L.map Rw.pr).Perm ((l.take i.toNat).map Rw.pr), fun i _ => l.length - i.toNat,
    ⟨by omega, by omega, hle, [], ⟨⟨⟨none, 0, 0⟩, u, H.ins_same _ _ _, hle, hn, Rws.nil u⟩, List.Pairwise.nil⟩, by simp⟩, ?_⟩
  rintro i w ⟨i0, i1, hw, L, hT, hp⟩
  refine ⟨fun hil => ?_, fun hig => ?_⟩
  · obtain ⟨p, hp', r, hr, c0, c1, c2⟩ := (hs.mono hw).at i0 hil
    have hi : i.toNat < l.length := by omega
    have hrm : r ∈ l := List.mem_of_getElem? hr
    have hLl : L.length = i.toNat := by have := hp.length_eq; simp at this; omega
    have hnin : r.id ∉ L.map (·.id) := fun hm => by
      rw [ids_pr] at hm
      have hm2 := ((hp.map (·.1)).mem_iff (a := r.id)).1 hm
      rw [← ids_pr] at hm2
      obtain ⟨r', hr', e⟩ := List.mem_map.1 hm2
      obtain ⟨j, hj, rfl⟩ := List.mem_iff_getElem.1 hr'
      simp only [List.length_take] at hj
      rw [List.getElem_take] at e
      have := List.pairwise_iff_getElem.1 hl.nodup j i.toNat (by simp; omega) (by simp; omega) (by omega)
      simp only [List.getElem_map] at this
      rw [List.getElem?_eq_getElem hi] at hr
      rw [Option.some.inj hr] at this
      exact this e
    have hv := hl.v r hrm
    have hid := hl.id r hrm
    have hmay : mayErr r.id r.v d (decide (r.id ∈ L.map (·.id))) L.length = 0 := by
      unfold mayErr
      rw [if_neg (by omega), if_neg, if_neg]
      · rintro ⟨_, h2⟩; omega
      · have := ok_vcheck hv.2 (by have := hl.dim; have := hv.1; omega)
        rw [hv.1] at this
        simpa using this
    refine ⟨p, hp', ⟨i0, hil⟩, _, c0, _, c1, spec.theodoliteref05_Table__Put hT (by omega) c2 (fun h => absurd hmay h) fun _ u' L' hT' hL' hk => ⟨⟨by omega, by omega⟩, ⟨by omega, by omega, fun c o hc => hk c o (hw c o hc) fun e => (by rw [e, hn] at hc; cases hc), L', hT', ?_⟩, by dsimp only; omega⟩⟩
    rw [hL', show (i + 1).toNat = i.toNat + 1 by omega, List.take_add_one, hr, List.map_append]
    refine (tputP_perm (by rw [← ids_pr]; exact hnin) r.v).trans ?_
    refine (List.Perm.cons _ hp).trans ?_
    exact (List.perm_append_singleton _ _).symm
  · have hi : i.toNat = l.length := by
      have : ¬ i < (s.n : Int) := hig
      omega
    rw [hi, List.take_length] at hp
    exact hK n w L hn hw hT hp

end Go.Proofs.YtpbelkpfljhjlaaGreatDoor

/- VcMaps -/
namespace Go.Proofs.YtpbelkpfljhjlaaGreatDoor

/-- What an entry tells. -/
def MapEntry.kv (e : MapEntry) : Value × Value := (e.key, e.val)
def kvOf (p : Int × Value) : Value × Value := (.int .i64 p.1, p.2)

theorem kvOf_inj {p q : Int × Value} (h : kvOf p = kvOf q) : p = q := by
  cases p; cases q
  simp only [kvOf, Prod.mk.injEq, Value.int.injEq, true_and] at h
  obtain ⟨h1, h2⟩ := h
  subst h1; subst h2; rfl

/-- A map's entries: their keys and values in the order of their births. -/
structure Ents (es : Array MapEntry) (clock : Nat) (l : List (Int × Value)) : Prop where
  kv : es.toList.map MapEntry.kv = l.map kvOf
  born : (es.toList.map (·.born)).Nodup
  lt : ∀ e ∈ es.toList, e.born < clock
  nodup : (l.map (·.1)).Nodup

def MapAt (u : H) (b : Nat) (l : List (Int × Value)) : Prop := ∃ es clock, u b = some (.map es clock) ∧ Ents es clock l

theorem MapAt.mono {u u' : H} {b : Nat} {l : List (Int × Value)} (h : MapAt u b l) (hu : u.le u') : MapAt u' b l := by
  obtain ⟨es, c, h1, h2⟩ := h
  exact ⟨es, c, hu _ _ h1, h2⟩

theorem MapAt.else {u u' : H} {b : Nat} {l : List (Int × Value)} (h : MapAt u b l) (hu : ∀ o, u b = some o → u' b = some o) : MapAt u' b l := by
  obtain ⟨es, c, h1, h2⟩ := h
  exact ⟨es, c, hu _ h1, h2⟩

def getL (l : List (Int × Value)) (x : Int) : Option Value := (l.find? fun p => p.1 == x).map (·.2)

theorem getL_mem {l : List (Int × Value)} {x : Int} {v : Value} (h : getL l x = some v) : (x, v) ∈ l := by
  unfold getL at h
  cases hf : l.find? fun p => p.1 == x with
  | none => rw [hf] at h; cases h
  | some p =>
    rw [hf] at h
    have h1 := List.find?_some hf
    have h2 := List.mem_of_find?_eq_some hf
    simp only [Option.map_some, Option.some.injEq] at h
    have : p.1 = x := by simpa using h1
    rw [← this, ← h]
    exact h2

theorem getL_none {l : List (Int × Value)} {x : Int} : getL l x = none ↔ x ∉ l.map (·.1) := by
  unfold getL
  rw [Option.map_eq_none_iff, List.find?_eq_none]
  simp only [beq_iff_eq, List.mem_map, Prod.exists, exists_and_right, exists_eq_right, not_exists, Prod.forall]
  exact ⟨fun h v hm => h x v hm rfl, fun h a b hm e => h b (e ▸ hm)⟩

theorem getL_some {l : List (Int × Value)} (hn : (l.map (·.1)).Nodup) {x : Int} {v : Value} : getL l x = some v ↔ (x, v) ∈ l := by
  refine ⟨getL_mem, fun h => ?_⟩
  cases hg : getL l x with
  | none => exact absurd (List.mem_map.2 ⟨_, h, rfl⟩) (getL_none.1 hg)
  | some v' =>
    have h' := getL_mem hg
    have : ∀ {l : List (Int × Value)}, (l.map (·.1)).Nodup → (x, v) ∈ l → (x, v') ∈ l → v = v' := by
      intro l
      induction l with
      | nil => intro _ h; cases h
      | cons p l ih =>
        intro hn h1 h2
        have h3 := List.nodup_cons.1 hn
        rcases List.mem_cons.1 h1 with e1 | h1
        · rcases List.mem_cons.1 h2 with e2 | h2
          · rw [← e2] at e1; cases e1; rfl
          · exact (h3.1 (List.mem_map.2 ⟨_, h2, by rw [← e1]⟩)).elim
        · rcases List.mem_cons.1 h2 with e2 | h2
          · exact (h3.1 (List.mem_map.2 ⟨_, h1, by rw [← e2]⟩)).elim
          · exact ih h3.2 h1 h2
    rw [this hn h h']

theorem findNow_get (x : Int) : ∀ (es : List MapEntry) (l : List (Int × Value)) (i : Nat), es.map MapEntry.kv = l.map kvOf →
    (getL l x = none → Instr.findNow (.int .i64) (.int .i64 x) es i = some none) ∧ (∀ v, getL l x = some v → ∃ j, Instr.findNow (.int .i64) (.int .i64 x) es i = some (some (i + j, v)) ∧ l[j]? = some (x, v)) := by
  intro es
  induction es with
  | nil =>
    intro l i h
    have : l = [] := by simpa using h.symm
    subst this
    exact ⟨fun _ => rfl, fun v hv => (by simp [getL] at hv)⟩
  | cons e es ih =>
    intro l i h
    cases l with
    | nil => simp at h
    | cons y l =>
      simp only [List.map_cons, List.cons.injEq, MapEntry.kv, kvOf, Prod.mk.injEq] at h
      obtain ⟨⟨hk, hv⟩, hr⟩ := h
      obtain ⟨i1, i2⟩ := ih l (i + 1) hr
      unfold Instr.findNow
      rw [hk, hv]
      simp only [Instr.sameNow, if_true]
      by_cases hxy : y.1 = x
      · have hb : (x == y.1) = true := by simpa using hxy.symm
        have hg : getL (y :: l) x = some y.2 := by simp [getL, hxy]
        rw [hb, hg]
        refine ⟨fun h => (by cases h), fun v hv => ⟨0, ?_, ?_⟩⟩
        · cases hv; rfl
        · cases hv; simp [← hxy]
      · have hb : (x == y.1) = false := by simpa using fun h => hxy h.symm
        have hg : getL (y :: l) x = getL l x := by
          have : (y.1 == x) = false := by simpa using hxy
          simp [getL, this]
        rw [hb, hg]
        refine ⟨i1, fun v hv => ?_⟩
        obtain ⟨j, h1, h2⟩ := i2 v hv
        exact ⟨j + 1, by rw [h1, show i + 1 + j = i + (j + 1) by omega], by simpa using h2⟩

structure MapTy (P : Program) (t k e : TypeId) (z : Value) : Prop where
  ty : P.underlying t = some (.map k e)
  key : P.underlying k = some (.int .i64)
  zero : ∀ w, (zeroValue e).run P w = .ok z w

theorem MapTy.check {P : Program} {t k e : TypeId} {z : Value} (T : MapTy P t k e z) (b : Bool) (x : Int) (w : World) : (Instr.checkKey b 10000 k (.int .i64 x)).run P w = .ok () w := by
  show (Instr.checkKey b (9999 + 1) k (.int .i64 x)).run P w = .ok () w
  unfold Instr.checkKey
  simp [Sem.run_bind, run_underlying T.key, Result.andThen]

theorem MapTy.find {P : Program} {t k e : TypeId} {z : Value} (T : MapTy P t k e z) {es : Array MapEntry} {l : List (Int × Value)} (h : es.toList.map MapEntry.kv = l.map kvOf) (x : Int) (w : World) :
    (getL l x = none → (Instr.findKey k (.int .i64 x) es.toList).run P w = .ok none w) ∧ (∀ v, getL l x = some v → ∃ j, (Instr.findKey k (.int .i64 x) es.toList).run P w = .ok (some (j, v)) w ∧ l[j]? = some (x, v)) := by
  obtain ⟨h1, h2⟩ := findNow_get x es.toList l 0 h
  constructor
  · intro hx
    simp [Instr.findKey, Sem.run_bind, run_underlying T.key, Result.andThen, h1 hx]
  · intro v hv
    obtain ⟨j, hj, hl⟩ := h2 v hv
    rw [Nat.zero_add] at hj
    exact ⟨j, by simp [Instr.findKey, Sem.run_bind, run_underlying T.key, Result.andThen, hj], hl⟩

theorem sem_get {P : Program} {t k e : TypeId} {z : Value} (T : MapTy P t k e z) {u : H} {b : Nat} {l : List (Int × Value)} (h : MapAt u b l) {x : Int} {ct : CT} (y : ct.den) (hy : (getL l x).getD z = ct.enc y) {K : ct.den → H → Prop} (hK : K y u) :
    SemT P (Instr.lookup t (.map (some b)) (.int .i64 x) false) [.one ct] u K := by
  obtain ⟨es, c, hb, hl⟩ := h
  refine .one' (c := ct) y (fun w hw => ?_) hK
  have hg := MapKept.run_getObj_map (P := P) (hw _ _ hb)
  have hc := T.check es.isEmpty x w
  obtain ⟨f1, f2⟩ := T.find hl.kv x w
  cases hx : getL l x with
  | none =>
    rw [hx] at hy
    have hy' : z = ct.enc y := hy
    simp [Instr.lookup, Sem.run_bind, run_underlying T.ty, hg, hc, f1 hx, Result.andThen, T.zero, hy']
  | some v =>
    rw [hx] at hy
    have hy' : v = ct.enc y := hy
    obtain ⟨j, hj, _⟩ := f2 v hx
    simp [Instr.lookup, Sem.run_bind, run_underlying T.ty, hg, hc, hj, Result.andThen, hy']

theorem SemT.two' {P : Program} {m : Sem Value} {c d : CT} {u : H} {K : c.den → d.den → H → Prop} (x : c.den) (y : d.den) (h : ∀ w, Sub u w → m.run P w = .ok (.tuple #[c.enc x, d.enc y]) w) (hK : K x y u) : SemT P m [.one c, .one d] u K := by
  intro w hw
  exact ⟨_, w, u, h w hw, ⟨[c.enc x, d.enc y], .cons x (.cons y .nil), rfl, (CT.un_enc c x _).2 ((CT.un_enc d y _).2 hK)⟩, Step.refl hw⟩

theorem sem_get2 {P : Program} {t k e : TypeId} {z : Value} (T : MapTy P t k e z) {u : H} {b : Nat} {l : List (Int × Value)} (h : MapAt u b l) {x : Int} {ct : CT} (y : ct.den) (hy : (getL l x).getD z = ct.enc y) {K : ct.den → Bool → H → Prop} (hK : K y (getL l x).isSome u) :
    SemT P (Instr.lookup t (.map (some b)) (.int .i64 x) true) [.one ct, .one .bool] u K := by
  obtain ⟨es, c, hb, hl⟩ := h
  refine SemT.two' (c := ct) (d := .bool) y _ (fun w hw => ?_) hK
  have hg := MapKept.run_getObj_map (P := P) (hw _ _ hb)
  have hc := T.check es.isEmpty x w
  obtain ⟨f1, f2⟩ := T.find hl.kv x w
  cases hx : getL l x with
  | none =>
    rw [hx] at hy
    have hy' : z = ct.enc y := hy
    simp [Instr.lookup, Sem.run_bind, run_underlying T.ty, hg, hc, f1 hx, Result.andThen, T.zero, hy', CT.enc]
  | some v =>
    rw [hx] at hy
    have hy' : v = ct.enc y := hy
    obtain ⟨j, hj, _⟩ := f2 v hx
    simp [Instr.lookup, Sem.run_bind, run_underlying T.ty, hg, hc, hj, Result.andThen, hy', CT.enc]

theorem sem_put {P : Program} {t k e : TypeId} {z : Value} (T : MapTy P t k e z) {u : H} {b : Nat} {l : List (Int × Value)} (h : MapAt u b l) {x : Int} {v : Value} (hx : getL l x = none) {K : H → Prop}
    (hK : ∀ o, MapAt (u.ins b o) b (l ++ [(x, v)]) → K (u.ins b o)) :
    SemT P (unit (Instr.mapUpdate t (.map (some b)) (.int .i64 x) v)) [] u K := by
  obtain ⟨es, c, hb, hl⟩ := h
  intro w hw
  have hg := MapKept.run_getObj_map (P := P) (hw _ _ hb)
  have hj := (T.find hl.kv x w).1 hx
  have hc := T.check false x w
  have hset := MapKept.run_setObj_map (P := P) (.map (es.push { key := .int .i64 x, val := v, born := c }) (c + 1)) (hw _ _ hb)
  refine ⟨_, _, u.ins b (.map (es.push { key := .int .i64 x, val := v, born := c }) (c + 1)), ?_, ⟨[], .nil, rfl, hK _ ⟨_, _, H.ins_same _ _ _, ?_, ?_, ?_, ?_⟩⟩, step_block hw hb _⟩
  · simp [unit, Instr.mapUpdate, Sem.run_bind, run_underlying T.ty, hg, hc, hj, Result.andThen, hset]
    rfl
  · simp [hl.kv, MapEntry.kv, kvOf]
  · rw [Array.toList_push, List.map_append]
    refine List.nodup_append.2 ⟨hl.born, by simp, fun a ha d hd => ?_⟩
    obtain ⟨e', he, rfl⟩ := List.mem_map.1 ha
    have := hl.lt e' he
    simp only [List.map_cons, List.map_nil, List.mem_singleton] at hd
    omega
  · intro e' he
    rw [Array.toList_push] at he
    rcases List.mem_append.1 he with he | he
    · have := hl.lt e' he; omega
    · obtain rfl : e' = _ := by simpa using he
      exact Nat.lt_succ_self c
  · rw [List.map_append]
    refine List.nodup_append.2 ⟨hl.nodup, by simp, fun a ha d hd => ?_⟩
    have := getL_none.1 hx
    simp only [List.map_cons, List.map_nil, List.mem_singleton] at hd
    exact fun e => this (by rw [← hd, ← e]; exact ha)

theorem erase_filter {l : List (Int × Value)} (hn : (l.map (·.1)).Nodup) {j : Nat} {x : Int} {v : Value} (h : l[j]? = some (x, v)) : l.eraseIdx j = l.filter fun p => p.1 != x := by
  induction l generalizing j with
  | nil => simp at h
  | cons p l ih =>
    have h3 := List.nodup_cons.1 hn
    cases j with
    | zero =>
      simp only [List.getElem?_cons_zero, Option.some.injEq] at h
      subst h
      have : l.filter (fun p => p.1 != x) = l := List.filter_eq_self.2 fun q hq => by
        have : q.1 ≠ x := fun e => h3.1 (List.mem_map.2 ⟨q, hq, e⟩)
        simpa using this
      simp [this]
    | succ j =>
      simp only [List.getElem?_cons_succ] at h
      have hp : p.1 ≠ x := fun e => h3.1 (List.mem_map.2 ⟨_, List.mem_of_getElem? h, e.symm⟩)
      rw [List.eraseIdx_cons_succ, ih h3.2 h, List.filter_cons_of_pos (by simpa using hp)]

theorem sem_del {P : Program} {t k e T' kT : TypeId} {z : Value} (T : MapTy P t k e z) {u : H} {b : Nat} {l : List (Int × Value)} (h : MapAt u b l) {x : Int} {K : H → Prop}
    (hK : ∀ o, MapAt (u.ins b o) b (l.filter fun p => p.1 != x) → K (u.ins b o)) :
    SemT P (Builtin.delete_ #[t, kT] T' #[.map (some b), .int .i64 x]) [] u K := by
  obtain ⟨es, c, hb, hl⟩ := h
  intro w hw
  have hg := MapKept.run_getObj_map (P := P) (hw _ _ hb)
  have hc := T.check es.isEmpty x w
  obtain ⟨f1, f2⟩ := T.find hl.kv x w
  cases hx : getL l x with
  | none =>
    have hset := MapKept.run_setObj_map (P := P) (.map es c) (hw _ _ hb)
    have hf : l.filter (fun p => p.1 != x) = l := List.filter_eq_self.2 fun q hq => by
      have : q.1 ≠ x := fun e => getL_none.1 hx (List.mem_map.2 ⟨q, hq, e⟩)
      simpa using this
    refine ⟨_, _, u.ins b (.map es c), ?_, ⟨[], .nil, rfl, hK _ ⟨_, _, H.ins_same _ _ _, by rw [hf]; exact hl⟩⟩, step_block hw hb _⟩
    simp [Builtin.delete_, Sem.run_bind, run_underlying T.ty, hg, hc, f1 hx, Result.andThen, hset]
    rfl
  | some v =>
    obtain ⟨j, hj, hlj⟩ := f2 v hx
    have hset := MapKept.run_setObj_map (P := P) (.map (es.eraseIdxIfInBounds j) c) (hw _ _ hb)
    have het : (es.eraseIdxIfInBounds j).toList = es.toList.eraseIdx j := by simp
    have hsub : (es.toList.eraseIdx j).Sublist es.toList := List.eraseIdx_sublist _ _
    refine ⟨_, _, u.ins b (.map (es.eraseIdxIfInBounds j) c), ?_, ⟨[], .nil, rfl, hK _ ⟨_, _, H.ins_same _ _ _, ?_, ?_, ?_, ?_⟩⟩, step_block hw hb _⟩
    · simp [Builtin.delete_, Sem.run_bind, run_underlying T.ty, hg, hc, hj, Result.andThen, hset]
      rfl
    · have key : ∀ {α β : Type} (f : α → β) (L : List α) (j : Nat), (L.eraseIdx j).map f = (L.map f).eraseIdx j := by
        intro α β f L
        induction L with
        | nil => intro j; rfl
        | cons a L ih => intro j; cases j with
          | zero => rfl
          | succ j => simp [ih j]
      rw [het, key, hl.kv, ← key, erase_filter hl.nodup hlj]
    · rw [het]; exact hl.born.sublist (hsub.map _)
    · intro e' he; rw [het] at he; exact hl.lt e' (hsub.mem he)
    · exact hl.nodup.sublist (List.Sublist.map _ List.filter_sublist)

theorem sem_maplen {P : Program} {t k e T' : TypeId} {z : Value} (T : MapTy P t k e z) {u : H} {b : Nat} {l : List (Int × Value)} (h : MapAt u b l) {K : Int → H → Prop} (hK : K l.length u) :
    SemT P (Builtin.len_ #[t] T' #[.map (some b)]) [.one (.int .i64)] u K := by
  obtain ⟨es, c, hb, hl⟩ := h
  have hlen : es.size = l.length := by have := congrArg List.length hl.kv; simpa using this
  refine .one' (c := .int .i64) (l.length : Int) (fun w hw => ?_) hK
  have hg := MapKept.run_getObj_map (P := P) (hw _ _ hb)
  simp [Builtin.len_, Sem.run_bind, run_underlying T.ty, hg, Result.andThen, hlen]
  rfl

theorem sem_mkmap {P : Program} {t : TypeId} {u : H} {K : Option Nat → H → Prop} (hK : ∀ b o, u b = none → MapAt (u.ins b o) b [] → K (some b) (u.ins b o)) : SemT P (Instr.makeMap t none) [.one .map] u K :=
  .one (c := .map) fun w hw => ⟨some w.heap.size, _, _, Go.RowKit.run_makeMap t w, hK _ _ (hw.none (Nat.le_refl _)) ⟨#[], 0, H.ins_same _ _ _, rfl, by simp, by simp, by simp⟩, Step.newKnown hw _⟩

/-! ### ranges -/

/-- An iterator over a map that stays as it is: what has come. -/
def IterAt (u : H) (r b : Nat) (l dl : List (Int × Value)) : Prop :=
  ∃ es clock seen, u b = some (.map es clock) ∧ Ents es clock l ∧ u r = some (.mapIter (some b) clock seen clock) ∧
    ∃ ds : List MapEntry, seen.toList = ds.map (·.born) ∧ ds.map MapEntry.kv = dl.map kvOf ∧ (∀ d ∈ ds, d ∈ es.toList) ∧ (dl.map (·.1)).Nodup

theorem IterAt.else {u u' : H} {r b : Nat} {l dl : List (Int × Value)} (h : IterAt u r b l dl) (hb : ∀ o, u b = some o → u' b = some o) (hr : ∀ o, u r = some o → u' r = some o) : IterAt u' r b l dl := by
  obtain ⟨es, c, seen, h1, h2, h3, h4⟩ := h
  exact ⟨es, c, seen, hb _ h1, h2, hr _ h3, h4⟩

theorem IterAt.map {u : H} {r b : Nat} {l dl : List (Int × Value)} (h : IterAt u r b l dl) : MapAt u b l := by
  obtain ⟨es, c, seen, h1, h2, _⟩ := h
  exact ⟨es, c, h1, h2⟩

theorem IterAt.sub {u : H} {r b : Nat} {l dl : List (Int × Value)} (h : IterAt u r b l dl) : ∀ p ∈ dl, p ∈ l := by
  obtain ⟨es, c, seen, h1, h2, h3, ds, h4, h5, h6, h7⟩ := h
  intro p hp
  have : kvOf p ∈ ds.map MapEntry.kv := by rw [h5]; exact List.mem_map.2 ⟨p, hp, rfl⟩
  obtain ⟨d, hd, e⟩ := List.mem_map.1 this
  have : kvOf p ∈ l.map kvOf := by rw [← h2.kv, ← e]; exact List.mem_map.2 ⟨d, h6 d hd, rfl⟩
  obtain ⟨q, hq, e⟩ := List.mem_map.1 this
  rw [← kvOf_inj e]; exact hq

theorem IterAt.dn {u : H} {r b : Nat} {l dl : List (Int × Value)} (h : IterAt u r b l dl) : (dl.map (·.1)).Nodup := by
  obtain ⟨es, c, seen, h1, h2, h3, ds, h4, h5, h6, h7⟩ := h
  exact h7

theorem sem_range {P : Program} {t k e : TypeId} {z : Value} (T : MapTy P t k e z) {u : H} {b : Nat} {l : List (Int × Value)} (h : MapAt u b l) {K : Option Addr → H → Prop} (hK : ∀ r o, u r = none → IterAt (u.ins r o) r b l [] → K (some ⟨r, 0, none⟩) (u.ins r o)) :
    SemT P (Instr.range t (.map (some b))) [.one .ptr] u K := by
  obtain ⟨es, c, hb, hl⟩ := h
  refine .one (c := .ptr) fun w hw => ?_
  have hn := hw.none (Nat.le_refl _)
  have hne : b ≠ w.heap.size := fun e => by rw [← e, hb] at hn; cases hn
  refine ⟨some ⟨w.heap.size, 0, none⟩, w.alloc (.mapIter (some b) c #[] c), _, ?_, hK w.heap.size (.mapIter (some b) c #[] c) hn ⟨es, c, #[], by rw [H.ins_other _ _ hne]; exact hb, hl, H.ins_same _ _ _, [], rfl, rfl, fun d hd => (by cases hd), by simp⟩, Step.newKnown hw _⟩
  have hg := MapKept.run_getObj_map (P := P) (hw _ _ hb)
  simp [Instr.range, Sem.run_bind, run_underlying T.ty, hg, Result.andThen, CT.enc]

/-- A visited entry is there, and is that one. -/
theorem ents_find {es : List MapEntry} (hn : (es.map (·.born)).Nodup) {d e : MapEntry} (hd : d ∈ es) (he : e ∈ es) (h : d.born = e.born) : d = e := by
  induction es with
  | nil => cases hd
  | cons x es ih =>
    have h3 := List.nodup_cons.1 hn
    rcases List.mem_cons.1 hd with h1 | h1
    · rcases List.mem_cons.1 he with h2 | h2
      · rw [h1, h2]
      · exact (h3.1 (List.mem_map.2 ⟨e, h2, by rw [← h, h1]⟩)).elim
    · rcases List.mem_cons.1 he with h2 | h2
      · exact (h3.1 (List.mem_map.2 ⟨d, h1, by rw [h, h2]⟩)).elim
      · exact ih h3.2 h1 h2

theorem perm_of_sub {l dl : List (Int × Value)} (hl : (l.map (·.1)).Nodup) (hd : (dl.map (·.1)).Nodup) (h1 : ∀ p ∈ dl, p ∈ l) (h2 : ∀ p ∈ l, p ∈ dl) : dl.Perm l := by
  have nd : ∀ {l : List (Int × Value)}, (l.map (·.1)).Nodup → l.Nodup := fun {l} h => (List.pairwise_map.1 h).imp fun h e => h (by rw [e])
  exact (List.perm_ext_iff_of_nodup (nd hd) (nd hl)).2 fun p => ⟨h1 p, h2 p⟩

theorem nextT_of {P : Program} {u : H} {r b : Nat} {l dl : List (Int × Value)} (h : IterAt u r b l dl) {K0 : H → Prop} {K1 : Value → Value → H → Prop} (h0 : dl.Perm l → K0 u)
    (h1 : ∀ p o, p ∈ l → p.1 ∉ dl.map (·.1) → IterAt (u.ins r o) r b l (dl ++ [p]) → K1 (.int .i64 p.1) p.2 (u.ins r o)) : NextT P (.pointer (some ⟨r, 0, none⟩)) u K0 K1 := by
  have hsub := h.sub
  obtain ⟨es, c, seen, hb, hl, hr, ds, hs1, hs2, hs3, hs4⟩ := h
  intro w hw
  have hne : r ≠ b := fun e => by rw [e, hb] at hr; cases hr
  have hseen : ∀ e ∈ es.toList, seen.contains e.born = true ↔ e ∈ ds := by
    intro e he
    rw [Array.contains_iff_mem, ← Array.mem_toList_iff, hs1, List.mem_map]
    exact ⟨fun ⟨d, hd, e'⟩ => ents_find hl.born (hs3 d hd) he e' ▸ hd, fun hd => ⟨e, hd, rfl⟩⟩
  have hLm : ∀ e ∈ (leftOf es seen).toList, e ∈ es.toList ∧ e ∉ ds := fun e he => by
    unfold leftOf at he
    rw [Array.toList_filter] at he
    have h' := List.mem_filter.1 he
    refine ⟨h'.1, fun hd => ?_⟩
    have := (hseen e h'.1).2 hd
    rw [this] at h'
    simp at h'
  have hLe : ∀ e ∈ es.toList, e ∉ ds → e ∈ (leftOf es seen).toList := fun e he hd => by
    unfold leftOf
    rw [Array.toList_filter]
    refine List.mem_filter.2 ⟨he, ?_⟩
    cases hc : seen.contains e.born with
    | true => exact absurd ((hseen e he).1 hc) hd
    | false => rfl
  rcases run_next_at (P := P) w 0 r b c c seen es c (hw _ _ hr) (hw _ _ hb) hl.lt (Nat.le_refl _) with ⟨hz, hrun⟩ | ⟨e, heL, w1, hst, hrun⟩
  · refine ⟨w, u, .inl ⟨hrun, h0 ?_⟩, Step.refl hw⟩
    have hLnil : leftOf es seen = #[] := Array.eq_empty_of_size_eq_zero hz
    refine perm_of_sub hl.nodup hs4 hsub fun p hp => ?_
    have : kvOf p ∈ es.toList.map MapEntry.kv := by rw [hl.kv]; exact List.mem_map.2 ⟨p, hp, rfl⟩
    obtain ⟨e, he, e1⟩ := List.mem_map.1 this
    have hd : e ∈ ds := Classical.byContradiction fun hn => by
      have := hLe e he hn
      rw [hLnil] at this
      simp at this
    have : kvOf p ∈ dl.map kvOf := by rw [← hs2, ← e1]; exact List.mem_map.2 ⟨e, hd, rfl⟩
    obtain ⟨q, hq, e2⟩ := List.mem_map.1 this
    rw [← kvOf_inj e2]; exact hq
  · have hw1 : Sub u w1 := by rcases hst with rfl | rfl <;> exact hw
    have step1 : Step u [] w u [] w1 := by
      rcases hst with rfl | rfl
      · exact Step.refl hw
      · exact Step.draws hw (Nat.le_succ w.drawn)
    obtain ⟨hes, hnd⟩ := hLm _ heL
    obtain ⟨p, hp, hpk⟩ : ∃ p ∈ l, kvOf p = MapEntry.kv e := by
      have : MapEntry.kv e ∈ l.map kvOf := by rw [← hl.kv]; exact List.mem_map.2 ⟨e, hes, rfl⟩
      obtain ⟨p, hp, e1⟩ := List.mem_map.1 this
      exact ⟨p, hp, e1⟩
    have hk1 : e.key = .int .i64 p.1 := (congrArg Prod.fst hpk).symm
    have hk2 : e.val = p.2 := (congrArg Prod.snd hpk).symm
    have hpd : p.1 ∉ dl.map (·.1) := by
      intro hm
      obtain ⟨q, hq, e1⟩ := List.mem_map.1 hm
      have hql := hsub q hq
      have hqp : q = p := by
        have h1 := (getL_some hl.nodup (x := p.1) (v := q.2)).2 (by rw [← e1]; exact hql)
        have h2 := (getL_some hl.nodup (x := p.1) (v := p.2)).2 hp
        rw [h1] at h2
        cases q; cases p
        simp only [Option.some.injEq] at h2 e1
        rw [h2, e1]
      have : kvOf p ∈ ds.map MapEntry.kv := by rw [hs2, ← hqp]; exact List.mem_map.2 ⟨q, hq, rfl⟩
      obtain ⟨d, hd, e2⟩ := List.mem_map.1 this
      have hde : d = e := by
        have hkd : MapEntry.kv d = MapEntry.kv e := by rw [e2, hpk]
        obtain ⟨m, hm, em⟩ := List.mem_iff_getElem.1 (hs3 d hd)
        obtain ⟨n, hn, en⟩ := List.mem_iff_getElem.1 hes
        have hmn : m = n := by
          have hlen : es.toList.length = l.length := by have := congrArg List.length hl.kv; simpa using this
          have k1 : (l.map kvOf)[m]? = some (MapEntry.kv d) := by rw [← hl.kv, List.getElem?_map, List.getElem?_eq_getElem hm, em]; rfl
          have k2 : (l.map kvOf)[n]? = some (MapEntry.kv e) := by rw [← hl.kv, List.getElem?_map, List.getElem?_eq_getElem hn, en]; rfl
          have k3 : l[m]'(by omega) = l[n]'(by omega) := by
            rw [hkd] at k1
            rw [List.getElem?_map, List.getElem?_eq_getElem (by omega)] at k1 k2
            exact kvOf_inj (Option.some.inj (k1.trans k2.symm))
          rcases Nat.lt_trichotomy m n with h' | h' | h'
          · have := List.pairwise_iff_getElem.1 hl.nodup m n (by simp; omega) (by simp; omega) h'
            simp only [List.getElem_map] at this
            exact absurd (by rw [k3]) this
          · exact h'
          · have := List.pairwise_iff_getElem.1 hl.nodup n m (by simp; omega) (by simp; omega) h'
            simp only [List.getElem_map] at this
            exact absurd (by rw [k3]) this
        subst hmn
        rw [← em, ← en]
      exact hnd (hde ▸ hd)
    refine ⟨_, u.ins r (.mapIter (some b) c (seen.push e.born) c), .inr ⟨_, _, hrun, ?_⟩, step1.trans (step_block hw1 hr _)⟩
    rw [hk1, hk2]
    refine h1 p _ hp hpd ⟨es, c, seen.push e.born, by rw [H.ins_other _ _ (Ne.symm hne)]; exact hb, hl, H.ins_same _ _ _, ds ++ [e], by simp [hs1], ?_, ?_, ?_⟩
    · rw [List.map_append, hs2, List.map_append]; simp [hpk]
    · intro d hd
      rcases List.mem_append.1 hd with hd | hd
      · exact hs3 d hd
      · obtain rfl : d = e := by simpa using hd
        exact hes
    · rw [List.map_append]
      refine List.nodup_append.2 ⟨hs4, by simp, fun a ha d hd => ?_⟩
      simp only [List.map_cons, List.map_nil, List.mem_singleton] at hd
      exact fun e => hpd (by rw [← hd, ← e]; exact ha)

theorem entT_of {P : Program} {u : H} {r b : Nat} {l dl : List (Int × Value)} {p : Int × Value} (h : IterAt u r b l (dl ++ [p])) {K : Value → Value → H → Prop} (hK : K (.int .i64 p.1) p.2 u) : EntT P (.pointer (some ⟨r, 0, none⟩)) u K := by
  obtain ⟨es, c, seen, hb, hl, hr, ds, hs1, hs2, hs3, hs4⟩ := h
  intro w hw
  obtain ⟨ds', e, rfl⟩ : ∃ ds' e, ds = ds' ++ [e] := by
    rcases List.eq_nil_or_concat ds with h | ⟨a, b, h⟩
    · rw [h] at hs2; simp at hs2
    · exact ⟨a, b, by rw [h, List.concat_eq_append]⟩
  have hk : MapEntry.kv e = kvOf p := by
    have := congrArg List.getLast? hs2
    simpa using this
  have hk1 : e.key = .int .i64 p.1 := congrArg Prod.fst hk
  have hk2 : e.val = p.2 := congrArg Prod.snd hk
  have hseen : seen = (ds'.map (·.born)).toArray.push e.born := by
    apply Array.ext'
    rw [hs1]; simp
  rw [hseen] at hr
  have := run_entry_at (P := P) w r b c (ds'.map (·.born)).toArray es c e (hw _ _ hr) (hw _ _ hb) (hs3 e (by simp)) hl.born
  exact ⟨_, _, w, u, this, by rw [hk1, hk2]; exact hK, Step.refl hw⟩

end Go.Proofs.YtpbelkpfljhjlaaGreatDoor
