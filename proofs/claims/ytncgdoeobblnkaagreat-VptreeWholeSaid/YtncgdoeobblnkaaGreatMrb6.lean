/- Texts of mine, joined by merge.py: VcObey, VcFrame, VcRoot, VcSpoil, VcSure, VcNear, VcHeapF, VcWalkP, VcQue, VcVec, VcPart, VcIxB. -/
import Derived.Test.YtncgdoeobblnkaaGreatMrb5
import Derived.Lib.EndianBits
set_option maxRecDepth 100000

/- VcObey -/
namespace Go.Proofs.YtncgdoeobblnkaaGreat

theorem sem_appendF {P : Program} {t ty e : TypeId} {size bytes : Nat} {zs : List Value} (hT : elemT P t = some (e, size, bytes, zs)) (hsz : 0 < size) {s x : Sl} {xs ys : List Value} {u0 u : H} {K : Sl → H → Prop}
    (ho : OwnF u0 u e size s xs) (hx : Seg u x size ys) (h1 : ∀ y ∈ ys, y.oneCell' = true) (hm : s.n + x.n ≤ 9223372036854775807) (hb : (s.n + x.n) * bytes ≤ 140737488355328)
    (hK : ∀ s' u', OwnF u0 u' e size s' (xs ++ ys) → s'.n = s.n + x.n → K s' u') :
    SemT P (Builtin.append_ #[t, t] ty #[.slice s.a s.n s.c, .slice x.a x.n x.c]) [.one .slice] u K :=
  sem_append hT hsz ho.own hx h1 hm hb fun s' u' h2 h3 hgr _ => hK s' u' ⟨h2, hgr.le ho.le ho.fresh, fun g' hg' => hgr.out ho.le ho.fresh g' hg'⟩ h3

theorem Ints.part {u : H} {s : Sl} {L : List Int} (hs : Ints u s L) {l h m : Nat} (h1 : l ≤ h) (h2 : h ≤ s.n) (h3 : h ≤ m) (h4 : m ≤ s.c) : Ints u (s.part l h m 1) ((L.drop l).take (h - l)) := by
  have := Seg.part hs h1 h2 h3 h4
  rw [Nat.mul_one, Nat.mul_one, ← List.map_drop, ← List.map_take] at this
  exact this

theorem Ints.nil (u : H) : Ints u ⟨none, 0, 0⟩ [] := (OwnF.nil (H.le.refl u) 0 1).own.seg

theorem Ints.get {u : H} {s : Sl} {L : List Int} (hs : Ints u s L) {x : Int} (h0 : 0 ≤ x) (h1 : x < (s.n : Int)) : ∃ p, s.a = some p ∧ ∃ y, L[x.toNat]? = some y ∧ u.cell? (p.add (x.toNat * 1)) = some (.int .i64 y) := by
  obtain ⟨p, hp, hc⟩ := hs.at h0 h1
  have hn := hs.len
  have hl : x.toNat < L.length := by omega
  refine ⟨p, hp, L[x.toNat], List.getElem?_eq_getElem hl, ?_⟩
  rw [hc]
  simp [List.getD_eq_getElem?_getD, hl]

/-! ### rows and numbers -/

theorem spec.theodoliteref05_find {s : Sl} {l : List Rw} {x : Int} {u : H} {K : Int → H → Prop} (hs : Rws u s l) (h1 : ∀ (i : Nat) r, l[i]? = some r → r.id = x → K i u) (h2 : (∀ r ∈ l, r.id ≠ x) → K (-1) u) : C.theodoliteref05_find s x u K := by
  have hn := hs.len
  have hmx := hs.max
  apply vc.theodoliteref05_find
  refine ⟨fun _ i v => v = u ∧ 0 ≤ i ∧ ∀ r ∈ l.take i.toNat, r.id ≠ x, fun _ i _ => s.n - i.toNat, ⟨rfl, by omega, fun r hr => by simp at hr⟩, ?_⟩
  rintro _ i v ⟨rfl, i0, hi0⟩
  refine ⟨fun hi => ?_, fun hi => h2 fun r hr => hi0 r (by rw [List.take_of_length_le (by omega)]; exact hr)⟩
  obtain ⟨p, hp, r, hr, c0, _, _⟩ := hs.at i0 hi
  refine ⟨p, hp, ⟨i0, hi⟩, _, c0, fun he => ?_, fun hne => ⟨⟨by omega, by omega⟩, ⟨rfl, by omega, fun r' hr' => ?_⟩, by dsimp only; omega⟩⟩
  · have := h1 i.toNat r hr he
    rw [show ((i.toNat : Nat) : Int) = i by omega] at this
    exact this
  · rw [show (i + 1).toNat = i.toNat + 1 by omega, List.take_add_one, hr] at hr'
    rcases List.mem_append.1 hr' with h | h
    · exact hi0 r' h
    · obtain rfl : r' = r := by simpa using h
      exact hne

theorem spec.theodoliteref03_With {s : Sl} {L : List Int} {x : Int} {u : H} {K : Sl → H → Prop} (hs : Ints u s (sortI L)) (hb : L.length ≤ 1000000) (hK : ∀ s' u', OwnF u u' 3 1 s' ((sortI (x :: L)).flatMap encI) → K s' u') : C.theodoliteref03_With s x u K := by
  have hn := hs.len
  have hcap : s.n ≤ s.c := Seg.cap hs
  have hsl := sortI_len L
  apply vc.theodoliteref03_With
  intro K0 hK0
  have one : ∀ (l : List Int), ∀ y ∈ l.flatMap encI, y.oneCell' = true := fun l y hy => by
    obtain ⟨h, _, hy⟩ := List.mem_flatMap.1 hy
    exact encI_one h y hy
  have fin : ∀ k : Nat, k ≤ s.n → (∀ y ∈ (sortI L).take k, y < x) → (∀ y, (sortI L)[k]? = some y → x ≤ y) → K0 (k : Int) u := by
    intro k hk h1 h2
    refine hK0 _ _ ?_
    refine sem_slice (l := 0) (h := k) (m := s.c) tInts (.inl ⟨rfl, rfl⟩) (.inr rfl) (.inl ⟨rfl, rfl⟩) (Nat.zero_le _) (by omega) (Nat.le_refl _) hcap ?_
    have p1 := hs.part (l := 0) (h := k) (m := s.c) (Nat.zero_le _) hk (by omega) (Nat.le_refl _)
    rw [List.drop_zero, Nat.sub_zero] at p1
    have p1' : Seg u (s.part 0 k s.c 1) 1 (((sortI L).take k).flatMap encI) := by rw [flatI]; exact p1
    have pn1 : (s.part 0 k s.c 1).n = k := rfl
    refine sem_appendF (s := ⟨none, 0, 0⟩) tInts (by decide) (OwnF.nil (H.le.refl u) 3 1) p1' (one _) (by rw [pn1]; show 0 + k ≤ _; omega) (by rw [pn1]; show (0 + k) * 8 ≤ _; omega) fun s5 u6 h5 n5' => ?_
    have n5 : s5.n = k := by rw [pn1] at n5'; simpa using n5'
    refine sem_push' tInts (build_int x) (by decide) rfl (by simp [Value.oneCell']) h5 (by omega) (by omega) fun s9 u10 h9 n9 _ _ _ => ?_
    refine sem_slice (l := k) (h := s.n) (m := s.c) tInts (.inr rfl) (.inl ⟨rfl, rfl⟩) (.inl ⟨rfl, rfl⟩) hk hcap (Nat.le_refl _) hcap ?_
    have p2 := (hs.mono h9.le).part (l := k) (h := s.n) (m := s.c) hk (Nat.le_refl _) hcap (Nat.le_refl _)
    rw [List.take_of_length_le (by simp; omega)] at p2
    have p2' : Seg u10 (s.part k s.n s.c 1) 1 (((sortI L).drop k).flatMap encI) := by rw [flatI]; exact p2
    have pn2 : (s.part k s.n s.c 1).n = s.n - k := rfl
    refine sem_appendF tInts (by decide) h9 p2' (one _) (by rw [pn2]; omega) (by rw [pn2]; omega) fun s13 u14 h13 _ => hK s13 u14 ?_
    rw [← sortI_with (by omega) h1 h2]
    simpa [List.flatMap_append, encI] using h13
  refine ⟨fun i v => v = u ∧ 0 ≤ i ∧ i ≤ (s.n : Int) ∧ ∀ y ∈ (sortI L).take i.toNat, y < x, fun i _ => s.n - i.toNat, ⟨rfl, by omega, by omega, by simp⟩, ?_⟩
  rintro i v ⟨rfl, i0, i1, hp⟩
  have ei : ((i.toNat : Nat) : Int) = i := by omega
  refine ⟨fun hi => ?_, fun hi => ?_⟩
  · obtain ⟨p, hp1, y, hy, c0⟩ := hs.get i0 hi
    refine ⟨p, hp1, ⟨i0, hi⟩, _, c0, fun hlt' => ⟨⟨by omega, by omega⟩, ⟨rfl, by omega, by omega, ?_⟩, by dsimp only; omega⟩, fun hge => ?_⟩
    · rw [show (i + 1).toNat = i.toNat + 1 by omega, List.take_add_one, hy]
      intro z hz
      rcases List.mem_append.1 hz with h | h
      · exact hp z h
      · obtain rfl : z = y := by simpa using h
        exact hlt'
    · have := fin i.toNat (by omega) hp fun z hz => by rw [hy] at hz; cases hz; omega
      rw [ei] at this
      exact this
  · have := fin i.toNat (by omega) hp fun z hz => by
      have := (List.getElem?_eq_some_iff.1 hz).1
      omega
    rw [ei] at this
    exact this

theorem sortI_nil : sortI [] = [] := by simp [sortI]

theorem spec.theodoliteref03_Ids {s : Sl} {l : List Rw} {u : H} {K : Sl → H → Prop} (hs : Rws u s l) (hb : l.length ≤ 1000000) (hK : ∀ s' u', u.le u' → Ints u' s' (sortI (l.map (·.id))) → K s' u') : C.theodoliteref03_Ids s u K := by
  have hn := hs.len
  apply vc.theodoliteref03_Ids
  refine ⟨fun t i v => 0 ≤ i ∧ u.le v ∧ Ints v t (sortI ((l.take i.toNat).map (·.id))), fun _ i _ => s.n - i.toNat, ⟨by omega, H.le.refl u, by simpa [sortI_nil] using Ints.nil u⟩, ?_⟩
  rintro t i v ⟨i0, hle, ht⟩
  change Ints v t _ at ht
  refine ⟨fun hi => ?_, fun hi => ?_⟩
  · obtain ⟨p, hp, r, hr, c0, _, _⟩ := (hs.mono hle).at i0 hi
    refine ⟨p, hp, ⟨i0, hi⟩, _, c0, spec.theodoliteref03_With ht (by simp; omega) fun s' u' ho => ⟨⟨by omega, by omega⟩, ⟨by omega, hle.trans ho.le, ?_⟩, by dsimp only; omega⟩⟩
    rw [show (i + 1).toNat = i.toNat + 1 by omega, take_ids hr, sortI_eq (List.perm_append_singleton _ _)]
    exact ho.ints
  · rw [List.take_of_length_le (by omega)] at ht
    exact hK t v hle ht

theorem spec.theodoliteref03_Ints {s t : Sl} {a b : List Int} {u : H} {K : Bool → H → Prop} (hs : Ints u s a) (ht : Ints u t b) (h : K (decide (a = b)) u) : C.theodoliteref03_Ints s t u K := by
  have key : ∀ z, decide (a = b) = z → K z u := fun z e => e ▸ h
  have hn := hs.len
  have hm := ht.len
  have hmx := hs.max
  apply vc.theodoliteref03_Ints
  refine ⟨fun hne => key _ ?_, fun he => ?_⟩
  · have : a ≠ b := fun e => hne (by rw [hn, hm, e])
    simp [this]
  · refine ⟨fun _ i v => v = u ∧ 0 ≤ i ∧ i ≤ (s.n : Int) ∧ a.take i.toNat = b.take i.toNat, fun _ i _ => s.n - i.toNat, ⟨rfl, by omega, by omega, by simp⟩, ?_⟩
    rintro _ i v ⟨rfl, h0, h1, hp⟩
    refine ⟨fun hi => ?_, fun hi => key _ ?_⟩
    · obtain ⟨p, hp1, x, hx, c0⟩ := hs.get h0 hi
      obtain ⟨q, hq1, y, hy, d0⟩ := ht.get h0 (show i < (t.n : Int) by omega)
      refine ⟨p, hp1, ⟨h0, hi⟩, q, hq1, ⟨h0, by omega⟩, _, c0, _, d0, fun hne => key _ ?_, fun hxy => ⟨⟨by omega, by omega⟩, ⟨rfl, by omega, by omega, ?_⟩, by dsimp only; omega⟩⟩
      · have : a ≠ b := fun e => hne (by rw [e, hy] at hx; cases hx; rfl)
        simp [this]
      · have e1 : (i + 1).toNat = i.toNat + 1 := by omega
        rw [e1, List.take_add_one, List.take_add_one, hp, hx, hy, hxy]
    · have e1 : i.toNat = a.length := by omega
      rw [e1, List.take_length, ← hn, show s.n = b.length by omega, List.take_length] at hp
      simp [hp]

/-! ### regions -/

structure Rgn where
  sh : Int
  ls : Sl
  hs : Sl
  rad : Int
  is : Sl
  lo : List Int
  hi : List Int
  ids : List Int

def encG (r : Rgn) : List Value := [.int .i64 r.sh, .slice r.ls.a r.ls.n r.ls.c, .slice r.hs.a r.hs.n r.hs.c, .int .u64 (hiW r.rad), .int .u64 (loW r.rad), .slice r.is.a r.is.n r.is.c]
theorem encG_len (r : Rgn) : (encG r).length = 6 := rfl
theorem encG_one (r : Rgn) : ∀ v ∈ encG r, v.oneCell' = true := by simp [encG, Value.oneCell']

def Rgs (u : H) (s : Sl) (l : List Rgn) : Prop := Seg u s 6 (l.flatMap encG) ∧ ∀ r ∈ l, Ints u r.ls r.lo ∧ Ints u r.hs r.hi ∧ Ints u r.is r.ids

theorem Rgs.len {u : H} {s : Sl} {l : List Rgn} (h : Rgs u s l) : s.n = l.length := flat_n encG_len (by decide) h.1
theorem Rgs.max {u : H} {s : Sl} {l : List Rgn} (h : Rgs u s l) : s.n ≤ 9223372036854775807 := Nat.le_trans (Seg.cap h.1) (Seg.max h.1)
theorem Rgs.mono {u u' : H} {s : Sl} {l : List Rgn} (h : Rgs u s l) (k : u.le u') : Rgs u' s l := ⟨Seg.mono h.1 k, fun r hr => ⟨(h.2 r hr).1.mono k, (h.2 r hr).2.1.mono k, (h.2 r hr).2.2.mono k⟩⟩

theorem Rgs.at {u : H} {s : Sl} {l : List Rgn} (h : Rgs u s l) {x : Int} (h0 : 0 ≤ x) (h1 : x < (s.n : Int)) : ∃ p, s.a = some p ∧ ∃ q : Rgn, l[x.toNat]? = some q ∧
    u.cell? (p.add (x.toNat * 6)) = some (.int .i64 q.sh) ∧ u.cell? ((p.add (x.toNat * 6)).add 1) = some (.slice q.ls.a q.ls.n q.ls.c) ∧ u.cell? ((p.add (x.toNat * 6)).add 2) = some (.slice q.hs.a q.hs.n q.hs.c) ∧
    u.cell? ((p.add (x.toNat * 6)).add 3) = some (.int .u64 (hiW q.rad)) ∧ u.cell? ((p.add (x.toNat * 6)).add 4) = some (.int .u64 (loW q.rad)) ∧ u.cell? ((p.add (x.toNat * 6)).add 5) = some (.slice q.is.a q.is.n q.is.c) := by
  have hn := h.len
  have hl : x.toNat < l.length := by omega
  obtain ⟨p, hp, hc⟩ := Seg.elem encG_len (by decide) h.1 (List.getElem?_eq_getElem hl)
  exact ⟨p, hp, _, List.getElem?_eq_getElem hl, hc 0 _ rfl, hc 1 _ rfl, hc 2 _ rfl, hc 3 _ rfl, hc 4 _ rfl, hc 5 _ rfl⟩

/-- A region that may be in an answer, of a dimension. -/
structure RegOk (r : Rgn) (d : Int) : Prop where
  dim : 1 ≤ d ∧ d ≤ 64
  ids : Rise r.ids
  id : ∀ x ∈ r.ids, 1 ≤ x ∧ x ≤ 1000000000
  shape : (r.sh = 1 ∧ r.lo = [] ∧ r.hi = [] ∧ r.rad = 0) ∨ (r.sh = 2 ∧ r.rad = 0 ∧ vok r.lo ∧ vok r.hi ∧ (r.lo.length : Int) = d ∧ (r.hi.length : Int) = d ∧ ∀ i : Nat, (i : Int) < d → r.lo.getD i 0 ≤ r.hi.getD i 0) ∨
    (r.sh = 3 ∧ r.hi = [] ∧ vok r.lo ∧ (r.lo.length : Int) = d ∧ Dok r.rad)

/-- A vector that lies in a region. -/
def Inside (r : Rgn) (v : List Int) : Prop := (r.sh = 2 → ∀ i : Nat, i < v.length → r.lo.getD i 0 ≤ v.getD i 0 ∧ v.getD i 0 ≤ r.hi.getD i 0) ∧ (r.sh = 3 → sqTo r.lo v r.lo.length ≤ r.rad)

theorem spec.theodoliteref03_ids {s : Sl} {l : List Int} {u : H} {K : Bool → H → Prop} (hs : Ints u s l) (hr : Rise l) (hid : ∀ x ∈ l, 1 ≤ x ∧ x ≤ 1000000000) (h : K true u) : C.theodoliteref03_ids s u K := by
  have hmx := hs.max
  apply vc.theodoliteref03_ids
  refine ⟨fun _ i v => v = u ∧ 0 ≤ i, fun _ i _ => s.n - i.toNat, ⟨rfl, by omega⟩, ?_⟩
  rintro _ i v ⟨rfl, i0⟩
  refine ⟨fun hi => ?_, fun _ => h⟩
  intro K5 hK5
  have next : ∀ b, K5 b v := fun b => hK5 _ _ ⟨⟨by omega, by omega⟩, ⟨rfl, by omega⟩, by dsimp only; omega⟩
  obtain ⟨p, hp, x, hx, c0⟩ := hs.get i0 hi
  have hxid := hid x (List.mem_of_getElem? hx)
  refine ⟨p, hp, ⟨i0, hi⟩, _, c0, spec.theodoliteref03_Id ?_⟩
  rw [decide_eq_true hxid]
  refine ⟨fun hb => absurd rfl hb, fun _ => ⟨fun hpos => ?_, fun _ => ⟨next _, next _⟩⟩⟩
  obtain ⟨p', hp', y, hy, d0⟩ := hs.get (x := i - 1) (by omega) (by omega)
  have hlt' : y < x := by
    obtain ⟨h1, e1⟩ := List.getElem?_eq_some_iff.1 hx
    obtain ⟨h2, e2⟩ := List.getElem?_eq_some_iff.1 hy
    have := List.pairwise_iff_getElem.1 hr _ _ h2 h1 (by omega)
    rw [e1, e2] at this
    exact this
  exact ⟨⟨by omega, by omega⟩, p', hp', ⟨by omega, by omega⟩, p, hp, ⟨i0, hi⟩, ⟨_, d0, _, c0, fun h => by omega, fun _ => next _⟩, ⟨_, c0, _, d0, fun h => by omega, fun _ => next _⟩⟩

theorem hiW0 : hiW 0 = 0 := by decide
theorem loW0 : loW 0 = 0 := by decide

theorem spec.theodoliteref03_form {r : Rgn} {d : Int} {u : H} {K : Bool → H → Prop} (h1 : Ints u r.ls r.lo) (h2 : Ints u r.hs r.hi) (hr : RegOk r d) (h : K true u) : C.theodoliteref03_form r.sh r.ls r.hs (hiW r.rad) (loW r.rad) r.is u K := by
  have n1 := h1.len
  have n2 := h2.len
  apply vc.theodoliteref03_form
  rcases hr.shape with ⟨e, e1, e2, e3⟩ | ⟨e, e3, _⟩ | ⟨e, e2, _⟩
  · rw [e3, hiW0, loW0]
    refine ⟨fun _ => ⟨fun _ => ⟨fun _ => ?_, fun hne => absurd (by rw [n2, e2]; rfl) hne⟩, fun hne => absurd (by rw [n1, e1]; rfl) hne⟩, fun hne => absurd e hne⟩
    rw [decide_eq_true (And.intro rfl rfl)]
    exact h
  · rw [e3, hiW0, loW0]
    refine ⟨fun h => by omega, fun _ => ⟨fun _ => ?_, fun hne => absurd e hne⟩⟩
    rw [decide_eq_true (And.intro rfl rfl)]
    exact h
  · refine ⟨fun h => by omega, fun _ => ⟨fun h => by omega, fun _ => ⟨fun _ => ?_, fun hne => absurd e hne⟩⟩⟩
    rw [decide_eq_true (show (r.hs.n : Int) = 0 by rw [n2, e2]; rfl)]
    exact h

theorem spec.theodoliteref03_CheckRegion {r : Rgn} {d : Int} {u : H} {K : Int → H → Prop} (h1 : Ints u r.ls r.lo) (h2 : Ints u r.hs r.hi) (h3 : Ints u r.is r.ids) (hr : RegOk r d) (h : K 0 u) : C.theodoliteref03_CheckRegion r.sh r.ls r.hs (hiW r.rad) (loW r.rad) r.is d u K := by
  have hd := hr.dim
  have n1 := h1.len
  have n2 := h2.len
  apply vc.theodoliteref03_CheckRegion
  intro K0 hK0
  refine ⟨fun h => by omega, fun _ => ⟨fun h => by omega, fun _ => hK0 _ _ ?_⟩⟩
  clear hK0 K0
  intro K3 hK3
  refine spec.theodoliteref03_form h1 h2 hr ⟨fun hb => absurd rfl hb, fun _ => spec.theodoliteref03_ids h3 hr.ids hr.id ⟨fun hb => absurd rfl hb, fun _ => hK3 _ _ ?_⟩⟩
  clear hK3 K3
  have check : ∀ {v : List Int}, vok v → (v.length : Int) = d → vcheck v d = 0 := fun hv hl => by rw [← hl]; exact ok_vcheck hv (by omega)
  rcases hr.shape with ⟨e, e1, e2, e3⟩ | ⟨e, e3, v1, v2, l1, l2, hle⟩ | ⟨e, e2, v1, l1, _⟩
  · exact ⟨fun _ => h, fun hne => absurd e hne⟩
  · refine ⟨fun h => by omega, fun _ => spec.theodoliteref03_Check h1 ?_⟩
    rw [check v1 l1]
    intro K8 hK8
    refine ⟨fun hne => absurd rfl hne, fun _ => ⟨fun h => by omega, fun _ => hK8 _ _ (spec.theodoliteref03_Check h2 ?_)⟩⟩
    rw [check v2 l2]
    refine ⟨fun hne => absurd rfl hne, fun _ => ⟨fun _ i v => v = u ∧ 0 ≤ i, fun _ i _ => d.toNat - i.toNat, ⟨rfl, by omega⟩, ?_⟩⟩
    rintro _ i v ⟨rfl, i0⟩
    refine ⟨fun hi => ?_, fun _ => h⟩
    obtain ⟨p, hp, c0⟩ := h1.at i0 (show i < (r.ls.n : Int) by omega)
    obtain ⟨p', hp', d0⟩ := h2.at i0 (show i < (r.hs.n : Int) by omega)
    have := hle i.toNat (by omega)
    exact ⟨p, hp, ⟨i0, by omega⟩, _, c0, p', hp', ⟨i0, by omega⟩, _, d0, fun h => by omega, fun _ => ⟨⟨by omega, by omega⟩, ⟨rfl, by omega⟩, by dsimp only; omega⟩⟩
  · refine ⟨fun h => by omega, fun _ => spec.theodoliteref03_Check h1 ?_⟩
    rw [check v1 l1]
    intro K8 hK8
    exact ⟨fun hne => absurd rfl hne, fun _ => ⟨fun _ => h, fun hne => absurd e hne⟩⟩

theorem spec.theodoliteref03_In {r : Rgn} {d : Int} {t : Sl} {v : List Int} {u : H} {K : Bool → H → Prop} (h1 : Ints u r.ls r.lo) (h2 : Ints u r.hs r.hi) (hr : RegOk r d) (hv : Ints u t v) (hvo : vok v) (hl : (v.length : Int) = d) (hin : Inside r v) (h : K true u) :
    C.theodoliteref03_In r.sh r.ls r.hs (hiW r.rad) (loW r.rad) r.is t u K := by
  have n1 := h1.len
  have n2 := h2.len
  have nv := hv.len
  have hd := hr.dim
  apply vc.theodoliteref03_In
  rcases hr.shape with ⟨e, _⟩ | ⟨e, _, v1, v2, l1, l2, hle⟩ | ⟨e, e2, v1, l1, hrad⟩
  · exact ⟨fun h => by omega, fun _ => ⟨fun h => by omega, fun _ => h⟩⟩
  · refine ⟨fun _ => ⟨fun _ i w => w = u ∧ 0 ≤ i, fun _ i _ => t.n - i.toNat, ⟨rfl, by omega⟩, ?_⟩, fun hne => absurd e hne⟩
    rintro _ i w ⟨rfl, i0⟩
    refine ⟨fun hi => ?_, fun _ => h⟩
    intro K5 hK5
    obtain ⟨p, hp, c0⟩ := hv.at i0 hi
    obtain ⟨p1, hp1, c1⟩ := h1.at i0 (show i < (r.ls.n : Int) by omega)
    obtain ⟨p2, hp2, c2⟩ := h2.at i0 (show i < (r.hs.n : Int) by omega)
    have := hin.1 e i.toNat (by omega)
    exact ⟨p, hp, ⟨i0, hi⟩, _, c0, p1, hp1, ⟨i0, by omega⟩, _, c1, fun h => by omega, fun _ => ⟨p, hp, ⟨i0, hi⟩, _, c0, p2, hp2, ⟨i0, by omega⟩, _, c2, fun h => by omega, fun _ => hK5 _ _ ⟨⟨by omega, by omega⟩, ⟨rfl, by omega⟩, by dsimp only; omega⟩⟩⟩
  · refine ⟨fun h => by omega, fun _ => ⟨fun _ => ?_, fun hne => absurd e hne⟩⟩
    refine spec.theodoliteref03_Far h1 hv v1 hvo (by omega) fun x y hx hy hw => ⟨H.le.refl u, spec.theodoliteref01_Less (hiU hrad) (loU _) hx hy ?_⟩
    have hf : decide (wv (hiW r.rad) (loW r.rad) < wv x y) = false := by
      have := hin.2 e
      rw [wv_hl, hw]
      simpa using this
    rw [hf]
    exact h

theorem spec.theodoliteref05_region {s : Sl} {l : List Rw} {r : Rgn} {d : Int} {u : H} {K : Bool → H → Prop} (hs : Rws u s l) (hl : Rok l d) (h1 : Ints u r.ls r.lo) (h2 : Ints u r.hs r.hi) (h3 : Ints u r.is r.ids) (hr : RegOk r d) (hne : r.ids ≠ [])
    (hin : ∀ x ∈ r.ids, ∃ w ∈ l, w.id = x ∧ Inside r w.v) (h : K true u) : C.theodoliteref05_region s r.sh r.ls r.hs (hiW r.rad) (loW r.rad) r.is d u K := by
  have n3 := h3.len
  have hn := hs.len
  have m3 := h3.max
  apply vc.theodoliteref05_region
  intro K0 hK0
  refine spec.theodoliteref03_CheckRegion h1 h2 h3 hr ⟨fun hb => absurd rfl hb, fun _ => ⟨fun h0 => ?_, fun _ => hK0 _ _ ?_⟩⟩
  · exact absurd (List.eq_nil_of_length_eq_zero (by omega)) hne
  refine ⟨fun _ i v => v = u ∧ 0 ≤ i, fun _ i _ => r.is.n - i.toNat, ⟨rfl, by omega⟩, ?_⟩
  rintro _ i v ⟨rfl, i0⟩
  refine ⟨fun hi => ?_, fun _ => h⟩
  obtain ⟨p, hp, x, hx, c0⟩ := h3.get i0 hi
  obtain ⟨w, hw, hwx, hwin⟩ := hin x (List.mem_of_getElem? hx)
  refine ⟨p, hp, ⟨i0, hi⟩, _, c0, spec.theodoliteref05_find hs (fun j w' hj hid => ⟨fun h => by omega, fun _ => ?_⟩) fun hno => absurd hwx (hno w hw)⟩
  have hj' := (List.getElem?_eq_some_iff.1 hj).1
  have hww : w' = w := by
    obtain ⟨k, hk, e⟩ := List.getElem_of_mem hw
    have e' := (List.getElem?_eq_some_iff.1 hj).2
    have hjk : j = k := by
      have hnd := hl.nodup
      rcases Nat.lt_trichotomy j k with hlt' | heq | hgt
      · have := List.pairwise_iff_getElem.1 hnd j k (by simpa using hj') (by simpa using hk) hlt'
        simp only [List.getElem_map, e, e'] at this
        exact absurd (by rw [hid, hwx]) this
      · exact heq
      · have := List.pairwise_iff_getElem.1 hnd k j (by simpa using hk) (by simpa using hj') hgt
        simp only [List.getElem_map, e, e'] at this
        exact absurd (by rw [hid, hwx]) this
    subst hjk
    rw [← e', ← e]
  subst hww
  obtain ⟨pa, hpa, q, hq, _, d1, dv⟩ := hs.at (x := (j : Int)) (by omega) (by omega)
  rw [show ((j : Int)).toNat = j by omega] at hq d1
  rw [hj] at hq
  cases hq
  have hv := hl.v w' hw
  refine ⟨pa, hpa, ⟨by omega, by omega⟩, w'.s, by rw [show ((j : Int)).toNat = j by omega]; exact d1, spec.theodoliteref03_In h1 h2 hr dv hv.2 hv.1 hwin ⟨fun hb => absurd rfl hb, fun _ => ⟨⟨by omega, by omega⟩, ⟨rfl, by omega⟩, by dsimp only; omega⟩⟩⟩

/-! ### sound -/

/-- An answer as it is told: hits, ids that were seen, regions. -/
structure AnsR (u : H) (sh ss sr : Sl) (hits : List Hit) (seen : List Int) (rest : List Rgn) : Prop where
  h : Hts u sh hits
  s : Ints u ss seen
  r : Rgs u sr rest

theorem AnsR.mono {u u' : H} {sh ss sr : Sl} {hits : List Hit} {seen : List Int} {rest : List Rgn} (h : AnsR u sh ss sr hits seen rest) (k : u.le u') : AnsR u' sh ss sr hits seen rest := ⟨h.h.mono k, h.s.mono k, h.r.mono k⟩

/-- What a sound answer is, of rows. -/
structure Sound (l : List Rw) (q : List Int) (k : Int) (hits : List Hit) (seen : List Int) (rest : List Rgn) : Prop where
  rise : Rise seen
  reg : ∀ r ∈ rest, RegOk r q.length ∧ r.ids ≠ [] ∧ ∀ x ∈ r.ids, ∃ w ∈ l, w.id = x ∧ Inside r w.v
  all : (seen ++ rest.flatMap (·.ids)).Perm (l.map (·.id))
  first : ∀ m : List Rw, (∀ r ∈ m, r ∈ l) → m.map (·.id) = seen → hits = topk k.toNat (m.map (hitOf q))

theorem build_row1 (x : Int) (s : Sl) : buildOf Tryz.prog 22 1 #[(0, .agg #[.int .i64 x, .slice s.a s.n s.c])] = some (43, [.int .i64 x, .slice s.a s.n s.c]) := by kernel_rfl

theorem OwnF.rws {u0 u : H} {e : Nat} {s : Sl} {m l : List Rw} {t : Sl} (h : OwnF u0 u e 2 s (m.flatMap encR)) (hl : Rws u t l) (hm : ∀ r ∈ m, r ∈ l) : Rws u s m := ⟨h.own.seg, fun r hr => hl.2 r (hm r hr)⟩

theorem spec.theodoliteref05_Sound {s t sh ss sr : Sl} {l : List Rw} {q : List Int} {k : Int} {hits : List Hit} {seen : List Int} {rest : List Rgn} {u : H} {K : Bool → H → Prop} (hs : Rws u s l) (ht : Ints u t q) (hq : Qok l q) (k1 : 0 ≤ k)
    (ha : AnsR u sh ss sr hits seen rest) (hS : Sound l q k hits seen rest) (h : K true u) : C.theodoliteref05_Sound s t k sh ss sr u K := by
  have hn := hs.len
  have hqn := ht.len
  have nS := ha.s.len
  have nR := ha.r.len
  have nH := ha.h.len
  have mR := ha.r.max
  have hlen := hq.rows.len
  have htot : seen.length + (rest.flatMap (·.ids)).length = l.length := by have := hS.all.length_eq; simpa using this
  have hseen : ∀ x ∈ seen, ∃ r ∈ l, r.id = x := fun x hx => by
    have := hS.all.mem_iff.1 (List.mem_append_left _ hx)
    obtain ⟨r, hr, e⟩ := List.mem_map.1 this
    exact ⟨r, hr, e⟩
  refine ClT.forget (ss := [.one .bool]) ?_
  apply vc.theodoliteref05_Sound
  refine ⟨fun _ s3 s4 i v => 0 ≤ i ∧ i ≤ (ss.n : Int) ∧ Ints v s3 (sortI (seen.take i.toNat)) ∧ ∃ m : List Rw, OwnF u v 43 2 s4 (m.flatMap encR) ∧ (∀ r ∈ m, r ∈ l) ∧ m.map (·.id) = seen.take i.toNat, fun _ _ _ i _ => ss.n - i.toNat,
    ⟨by omega, by omega, by simpa [sortI_nil] using Ints.nil u, [], OwnF.nil (H.le.refl u) _ _, fun r hr => (by cases hr), by simp⟩, ?_⟩
  rintro b s3 s4 i v ⟨i0, i1, hall, m, ho, hml, hmid⟩
  change Ints v s3 _ at hall
  change OwnF u v _ 2 s4 _ at ho
  have hmlen : m.length = i.toNat := by have := congrArg List.length hmid; simp at this; omega
  refine ⟨fun hi => ?_, fun hi => ?_⟩
  · obtain ⟨p, hp, x, hx, c0⟩ := (ha.s.mono ho.le).get i0 hi
    obtain ⟨w, hw, hwx⟩ := hseen x (List.mem_of_getElem? hx)
    refine ⟨p, hp, ⟨i0, hi⟩, _, c0, spec.theodoliteref05_find (hs.mono ho.le) (fun j r hj hid => ?_) fun hno => absurd hwx (hno w hw)⟩
    have hj' := (List.getElem?_eq_some_iff.1 hj).1
    intro K11 hK11
    have go : ∀ b, K11 b v := by
      intro b
      refine hK11 _ _ ⟨p, hp, ⟨i0, hi⟩, _, c0, spec.theodoliteref03_With hall (by simp; omega) fun s16 u17 h16 => ?_⟩
      obtain ⟨pa, hpa, r', hr', d0, d1, dv⟩ := (hs.mono (ho.le.trans h16.le)).at (x := (j : Int)) (by omega) (by omega)
      have ej : ((j : Int)).toNat = j := by omega
      rw [ej] at hr' d0 d1
      rw [hj] at hr'
      cases hr'
      have hsn := flat_n encR_len (by decide) ho.own.seg
      refine ⟨pa, hpa, ⟨by omega, by omega⟩, _, by rw [ej]; exact d0, r.s, by rw [ej]; exact d1, sem_push' tRows (build_row1 _ _) (by decide) rfl (by simp [Value.oneCell']) (ho.mono h16.le) (by omega) (by omega) fun s23 u24 h23 n23 hel hbl _ => ⟨⟨by omega, by omega⟩, ⟨by omega, by omega, ?_, m ++ [r], ?_, ?_, ?_⟩, by dsimp only; omega⟩⟩
      · have h16' : OwnF v u17 3 1 s16 ((sortI (x :: seen.take i.toNat)).flatMap encI) := h16
        have hI : Own u24 3 1 s16 ((sortI (x :: seen.take i.toNat)).flatMap encI) := h16'.own.le fun b o hb hu => hel b o hu fun e => own_known ho e (h16'.fresh b hb)
        have hI2 : Ints u24 s16 (sortI (x :: seen.take i.toNat)) := by
          have := hI.seg
          rw [flatI] at this
          exact this
        rw [show (i + 1).toNat = i.toNat + 1 by omega, List.take_add_one, hx]
        have e : sortI (seen.take i.toNat ++ (some x).toList) = sortI (x :: seen.take i.toNat) := sortI_eq (List.perm_append_singleton _ _)
        rw [e]
        exact hI2
      · rw [List.flatMap_append]
        simpa [encR] using h23
      · intro r' hr'
        rcases List.mem_append.1 hr' with hr' | hr'
        · exact hml r' hr'
        · obtain rfl : r' = r := by simpa using hr'
          exact List.mem_of_getElem? hj
      · rw [show (i + 1).toNat = i.toNat + 1 by omega, List.take_add_one, hx, List.map_append, hmid, ← hid]
        rfl
    refine ⟨fun h => by omega, fun _ => ⟨fun hpos => ?_, fun _ => go _⟩⟩
    obtain ⟨p', hp', y, hy, d0⟩ := (ha.s.mono ho.le).get (x := i - 1) (by omega) (by omega)
    have hlt' : y < x := by
      obtain ⟨h1, e1⟩ := List.getElem?_eq_some_iff.1 hx
      obtain ⟨h2, e2⟩ := List.getElem?_eq_some_iff.1 hy
      have := List.pairwise_iff_getElem.1 hS.rise _ _ h2 h1 (by omega)
      rw [e1, e2] at this
      exact this
    exact ⟨⟨by omega, by omega⟩, p', hp', ⟨by omega, by omega⟩, _, d0, p, hp, ⟨i0, hi⟩, _, c0, fun h => by omega, fun _ => go _⟩
  -- all are seen
  rw [List.take_of_length_le (by omega)] at hall hmid
  have hsub : ∀ i, ((rest.take i).flatMap (·.ids)).length ≤ 512 := fun i => by
    have := congrArg (List.flatMap (·.ids)) (List.take_append_drop i rest)
    rw [List.flatMap_append] at this
    have := congrArg List.length this
    rw [List.length_append] at this
    omega
  refine ⟨fun _ s32 i w => 0 ≤ i ∧ i ≤ (sr.n : Int) ∧ v.le w ∧ Ints w s32 (sortI (seen ++ (rest.take i.toNat).flatMap (·.ids))), fun _ _ i _ => sr.n - i.toNat, ⟨by omega, by omega, H.le.refl v, by simpa using hall⟩, ?_⟩
  rintro _ s32 i w ⟨i0, i1, hvw, hall2⟩
  change Ints w s32 _ at hall2
  have huw := ho.le.trans hvw
  refine ⟨fun hi => ?_, fun hi => ?_⟩
  · obtain ⟨p, hp, g, hg, c0, c1, c2, c3, c4, c5⟩ := (ha.r.mono huw).at i0 hi
    have hgm := List.mem_of_getElem? hg
    obtain ⟨r1, r2, r3⟩ := (ha.r.mono huw).2 g hgm
    obtain ⟨gok, gne, gin⟩ := hS.reg g hgm
    refine ⟨p, hp, ⟨i0, hi⟩, _, c0, _, c1, _, c2, _, c3, _, c4, _, c5, ?_⟩
    rw [hqn]
    refine spec.theodoliteref05_region (hs.mono huw) hq.rows r1 r2 r3 gok gne gin ⟨fun hb => absurd rfl hb, fun _ => ?_⟩
    have ngi := r3.len
    have hg1 : (rest.take (i.toNat + 1)).flatMap (·.ids) = (rest.take i.toNat).flatMap (·.ids) ++ g.ids := by
      rw [List.take_add_one, hg, List.flatMap_append]; simp
    have hgl := hsub (i.toNat + 1)
    rw [hg1, List.length_append] at hgl
    refine ⟨fun s46 j w' => 0 ≤ j ∧ j ≤ (g.is.n : Int) ∧ v.le w' ∧ Ints w' s46 (sortI (seen ++ (rest.take i.toNat).flatMap (·.ids) ++ g.ids.take j.toNat)), fun _ j _ => g.is.n - j.toNat, ⟨by omega, by omega, hvw, by simpa using hall2⟩, ?_⟩
    rintro s46 j w' ⟨j0, j1, hvw', hall3⟩
    change Ints w' s46 _ at hall3
    have huw' := ho.le.trans hvw'
    obtain ⟨p', hp', g', hg', _, _, _, _, _, d5⟩ := (ha.r.mono huw').at i0 hi
    rw [hg] at hg'
    cases hg'
    refine ⟨p', hp', ⟨i0, hi⟩, g.is, d5, fun hj => ?_, fun hj => ⟨⟨by omega, by omega⟩, ⟨by omega, by omega, hvw', ?_⟩, by dsimp only; omega⟩⟩
    · obtain ⟨pi, hpi, x, hx, e0⟩ := ((ha.r.mono huw').2 g hgm).2.2.get j0 hj
      refine ⟨p', hp', ⟨i0, hi⟩, g.is, d5, pi, hpi, ⟨j0, hj⟩, _, e0, spec.theodoliteref03_With hall3 (by rw [List.length_append, List.length_append, List.length_take]; omega) fun s55 u56 h55 => ⟨⟨by omega, by omega⟩, ⟨by omega, by omega, hvw'.trans h55.le, ?_⟩, by dsimp only; omega⟩⟩
      rw [show (j + 1).toNat = j.toNat + 1 by omega, List.take_add_one, hx]
      have e : sortI (seen ++ (rest.take i.toNat).flatMap (·.ids) ++ (g.ids.take j.toNat ++ (some x).toList)) = sortI (x :: (seen ++ (rest.take i.toNat).flatMap (·.ids) ++ g.ids.take j.toNat)) := by
        rw [← List.append_assoc]
        exact sortI_eq (List.perm_append_singleton _ _)
      rw [e]
      exact h55.ints
    · rw [show (i + 1).toNat = i.toNat + 1 by omega, hg1, ← List.append_assoc]
      rw [List.take_of_length_le (l := g.ids) (show g.ids.length ≤ j.toNat by omega)] at hall3
      exact hall3
  rw [List.take_of_length_le (by omega)] at hall2
  have hm2 := (ho.mono hvw).rws (hs.mono huw) hml
  refine spec.theodoliteref05_Hits hm2 (ht.mono huw) (fun r hr => ⟨(hq.rows.v r (hml r hr)).2, by have := (hq.rows.v r (hml r hr)).1; omega⟩) hq.vq (by omega) fun s57 u58 h57 => ?_
  refine spec.theodoliteref05_First h57.hts k1 fun s59 h59 => ?_
  have hfirst := hS.first m hml hmid
  have h59' : Hts u58 s59 hits := by rw [hfirst]; exact h59
  have n59 := h59'.len
  have hu58 := huw.trans h57.le
  have hH := ha.h.mono hu58
  refine ⟨fun hne => absurd (by rw [n59, nH]) hne, fun _ => ⟨fun _ i w' => w' = u58 ∧ 0 ≤ i, fun _ i _ => s59.n - i.toNat, ⟨rfl, by omega⟩, ?_⟩⟩
  rintro _ i w' ⟨rfl, i0⟩
  have hmx := h59'.max
  refine ⟨fun hi => ?_, fun hi => ?_⟩
  · obtain ⟨p, hp, x, hx, c0, c1, c2⟩ := h59'.at i0 hi
    obtain ⟨p', hp', y, hy, d0, d1, d2⟩ := hH.at i0 (show i < (sh.n : Int) by omega)
    rw [hx] at hy
    cases hy
    exact ⟨p, hp, ⟨i0, hi⟩, _, c0, _, c1, _, c2, p', hp', ⟨i0, by omega⟩, _, d0, _, d1, _, d2, fun hne => absurd ⟨rfl, rfl, rfl⟩ hne, fun _ => ⟨⟨by omega, by omega⟩, ⟨rfl, by omega⟩, by dsimp only; omega⟩⟩
  · refine spec.theodoliteref03_Ids (hs.mono hu58) (by omega) fun s74 u75 l75 h74 => spec.theodoliteref03_Ints (hall2.mono (h57.le.trans l75)) h74 ?_
    rw [decide_eq_true (sortI_eq hS.all)]
    exact ⟨hu58.trans l75, h⟩

end Go.Proofs.YtncgdoeobblnkaaGreat

/- VcFrame -/
namespace Go.Proofs.YtncgdoeobblnkaaGreat

/-- v0 turns into v0', a part of v, which turns into v'. -/
structure Framed (v0 v v0' v' : H) : Prop where
  le : v0'.le v'
  out : ∀ b o, v0 b = none → v b = some o → v0' b = none ∧ v' b = some o
  new : ∀ b, v' b ≠ none → v0' b ≠ none ∨ (v0 b = none ∧ v' b = v b)

def H.frame (v v0 v0' : H) : H := fun b => match v0' b with
  | some o => some o
  | none => match v0 b with
    | some _ => none
    | none => v b

theorem Step.frame {v0 v v0' : H} {w w' : World} (k : Step v0 [] w v0' [] w') (hle : v0.le v) (hs : Sub v w) : Step v [] w (v.frame v0 v0') [] w' ∧ Framed v0 v v0' (v.frame v0 v0') := by
  have h0 : ∀ b, v b = none → v0 b = none := fun b hb => by
    cases e : v0 b with
    | none => rfl
    | some o => rw [hle _ _ e] at hb; cases hb
  refine ⟨⟨fun b o hb => ?_, k.os, k.tape, k.output, k.drawn, k.size, fun b hb hu _ => k.rest b hb (h0 b hu) (by simp), fun b hb hu => ?_, [], by simp, by simp⟩, ⟨fun b o hb => ?_, fun b o h1 h2 => ?_, fun b hb => ?_⟩⟩
  · unfold H.frame at hb
    split at hb
    · rename_i e; cases hb; exact k.sub _ _ e
    · split at hb
      · cases hb
      · rename_i e; rw [k.rest b (hs.lt hb) e (by simp)]; exact hs _ _ hb
  · unfold H.frame
    rw [k.honest b hb (h0 b hu), h0 b hu]
    exact hu
  · unfold H.frame; rw [hb]
  · have := k.honest b (hs.lt h2) h1
    exact ⟨this, by unfold H.frame; rw [this, h1]; exact h2⟩
  · cases e : v0' b with
    | some o => exact .inl (by simp)
    | none =>
      cases e0 : v0 b with
      | some o => unfold H.frame at hb; rw [e, e0] at hb; exact absurd rfl hb
      | none => exact .inr ⟨rfl, by unfold H.frame; rw [e, e0]⟩

theorem Seg.else {u u' : H} {s : Sl} {size : Nat} {xs : List Value} (h : Seg u s size xs) (hu : ∀ g o, s.blk = some g → u g = some o → u' g = some o) : Seg u' s size xs :=
  ⟨h.len, h.cap, h.max, h.at'.imp id fun ⟨p, h1, h2⟩ => ⟨p, h1, fun i v e => by
    have hc := h2 i v e
    unfold H.cell? at hc ⊢
    have hb : (p.add i).block = p.block := by unfold Addr.add; split <;> rfl
    split at hc
    · rename_i c t f hx
      rw [hu _ _ (by simp [Sl.blk, h1, hb]) hx]
      exact hc
    · cases hc⟩⟩

/-- One continuation says no less than another one, R between what is known. -/
def kTo (R : H → H → Prop) : (ts : List CT) → Cur ts (H → Prop) → Cur ts (H → Prop) → Prop
  | [], r, r' => ∀ u u', R u u' → r u → r' u'
  | _ :: ts, K, K' => ∀ x, kTo R ts (K x) (K' x)

theorem unC_kTo {R : H → H → Prop} {u u' : H} (hR : R u u') : ∀ (ts : List CT) (K K' : Cur ts (H → Prop)) (vs : List Value), kTo R ts K K' → (unC ts K vs fun r => r u) → unC ts K' vs fun r => r u' := by
  intro ts
  induction ts with
  | nil => intro K K' vs h k; cases vs with
    | nil => exact h _ _ hR k
    | cons => simp [unC] at k
  | cons t ts ih =>
    intro K K' vs h k
    cases vs with
    | nil => simp [unC] at k
    | cons v vs =>
      simp only [unC] at k ⊢
      obtain ⟨x, rfl, hx⟩ := CT.un_spec k
      exact (CT.un_enc t x _).2 (ih (K x) (K' x) vs (h x) hx)

theorem ClT.frame {P : Program} {f : FuncId} {args : Array Value} {ss : List Sh} {v0 v : H} {K K' : Cur (ctsOf ss) (H → Prop)} (h : ClT P f args ss v0 K) (hle : v0.le v) (hk : kTo (Framed v0 v) (ctsOf ss) K K') : ClT P f args ss v K' := by
  intro w hw
  refine (h w (hw.mono hle)).mono ?_
  rintro e w' ⟨x, u', he, ⟨vs, hv, hx, hc⟩, hs⟩
  obtain ⟨h1, h2⟩ := hs.frame hle hw
  exact ⟨x, _, he, ⟨vs, hv, hx, unC_kTo h2 _ _ _ _ hk hc⟩, h1⟩

theorem ClR.frame {P : Program} {fv : Value} {args : Array Value} {ss : List Sh} {v0 v : H} {K K' : Cur (ctsOf ss) (H → Prop)} (h : ClR P fv args ss v0 K) (hle : v0.le v) (hk : kTo (Framed v0 v) (ctsOf ss) K K') : ClR P fv args ss v K' := by
  obtain ⟨l, hf, h⟩ := h
  refine ⟨l, hf, fun w hw => ?_⟩
  obtain ⟨fn, tmps, assign, body, hy, hR⟩ := h w (hw.mono hle)
  refine ⟨fn, tmps, assign, body, hy, hR.mono ?_⟩
  rintro e w' ⟨x, u', he, ⟨vs, hv, hx, hc⟩, hs⟩
  obtain ⟨h1, h2⟩ := hs.frame hle hw
  exact ⟨x, _, he, ⟨vs, hv, hx, unC_kTo h2 _ _ _ _ hk hc⟩, h1⟩

theorem ClV.frame {P : Program} {fv : Value} {args : Array Value} {ss : List Sh} {v0 v : H} {K K' : Cur (ctsOf ss) (H → Prop)} (h : ClV P fv args ss v0 K) (hle : v0.le v) (hk : kTo (Framed v0 v) (ctsOf ss) K K') : ClV P fv args ss v K' := by
  obtain ⟨f, pre, cap, hf, hb, h⟩ := h
  exact ⟨f, pre, cap, hf, hb, h.frame hle hk⟩

theorem ClY.frame {P : Program} {fv : Value} {args : Array Value} {ss : List Sh} {v0 v : H} {K K' : Cur (ctsOf ss) (H → Prop)} (h : ClY P fv args ss v0 K) (hle : v0.le v) (hk : kTo (Framed v0 v) (ctsOf ss) K K') : ClY P fv args ss v K' :=
  h.imp (fun h => h.frame hle hk) fun h => h.frame hle hk

/-- What is known at the end may be less. -/
theorem Step.less {u u' u'' : H} {bs bs' : List Nat} {w w' : World} (h : Step u bs w u' bs' w') (k : u''.le u') : Step u bs w u'' bs' w' :=
  ⟨h.sub.mono k, h.os, h.tape, h.output, h.drawn, h.size, h.rest, fun b hb hu => (by
    cases e : u'' b with
    | none => rfl
    | some o => have := h.honest b hb hu; rw [k _ _ e] at this; cases this), h.more⟩

def kW : (ts : List CT) → Cur ts (H → Prop) → Cur ts (H → Prop)
  | [], r => fun u' => ∃ u'', u''.le u' ∧ r u''
  | _ :: ts, K => fun x => kW ts (K x)

theorem unC_kW {u' : H} : ∀ (ts : List CT) (K : Cur ts (H → Prop)) (vs : List Value), (unC ts (kW ts K) vs fun r => r u') → ∃ u'', u''.le u' ∧ unC ts K vs fun r => r u'' := by
  intro ts
  induction ts with
  | nil => intro K vs h; cases vs with
    | nil => exact h
    | cons => simp [unC] at h
  | cons t ts ih =>
    intro K vs h
    cases vs with
    | nil => simp [unC] at h
    | cons v vs =>
      simp only [unC] at h ⊢
      obtain ⟨x, rfl, hx⟩ := CT.un_spec h
      obtain ⟨u'', h1, h2⟩ := ih (K x) vs hx
      exact ⟨u'', h1, (CT.un_enc t x _).2 h2⟩

theorem ClT.weaken {P : Program} {f : FuncId} {args : Array Value} {ss : List Sh} {u : H} {K : Cur (ctsOf ss) (H → Prop)} (h : ClT P f args ss u (kW (ctsOf ss) K)) : ClT P f args ss u K := by
  intro w hw
  refine (h w hw).mono ?_
  rintro e w' ⟨v, u', he, ⟨vs, hk, hv, hc⟩, hs⟩
  obtain ⟨u'', hle, hc'⟩ := unC_kW _ _ _ hc
  exact ⟨v, u'', he, ⟨vs, hk, hv, hc'⟩, hs.less hle⟩

/-! ### a measure that stands in no slot -/

theorem least_ex {P : Nat → Prop} (h : ∃ n, P n) : ∃ n, P n ∧ ∀ m, P m → n ≤ m := by
  obtain ⟨n, hn⟩ := h
  induction n using Nat.strongRecOn with
  | ind n ih =>
    rcases Classical.em (∃ m, m < n ∧ P m) with ⟨m, hm, hp⟩ | hno
    · exact ih m hm hp
    · exact ⟨n, hn, fun m hp => Nat.le_of_not_lt fun hlt => hno ⟨m, hlt, hp⟩⟩

open Classical in
noncomputable def least (P : Nat → Prop) : Nat := if h : ∃ n, P n then Classical.choose (least_ex h) else 0

theorem least_is {P : Nat → Prop} (h : ∃ n, P n) : P (least P) := by
  unfold least; rw [dif_pos h]; exact (Classical.choose_spec (least_ex h)).1

theorem least_le {P : Nat → Prop} {n : Nat} (h : P n) : least P ≤ n := by
  unfold least; rw [dif_pos ⟨n, h⟩]; exact (Classical.choose_spec (least_ex ⟨n, h⟩)).2 n h

end Go.Proofs.YtncgdoeobblnkaaGreat

/- VcRoot -/
namespace Go.Proofs.YtncgdoeobblnkaaGreat

/-- The greatest number whose square is not above. -/
noncomputable def rt (w : Int) : Int := (least fun n => w < ((n : Int) + 1) * ((n : Int) + 1) : Nat)

theorem sq_lt {x y : Int} (h0 : 0 ≤ x) (h : x < y) : x * x < y * y := by
  have h1 : x * x ≤ x * y := Int.mul_le_mul_of_nonneg_left (by omega) h0
  have h2 : x * y < y * y := Int.mul_lt_mul_of_pos_right h (by omega)
  omega

theorem sq_le {x y : Int} (h0 : 0 ≤ x) (h : x ≤ y) : x * x ≤ y * y := Int.mul_le_mul h h h0 (by omega)

theorem rt_spec {w : Int} (h0 : 0 ≤ w) : 0 ≤ rt w ∧ rt w * rt w ≤ w ∧ w < (rt w + 1) * (rt w + 1) := by
  have hex : ∃ n : Nat, w < ((n : Int) + 1) * ((n : Int) + 1) := ⟨w.toNat, by
    have e : ((w.toNat : Nat) : Int) = w := by omega
    rw [e]
    have : w * 1 ≤ (w + 1) * (w + 1) := Int.mul_le_mul (by omega) (by omega) (by omega) (by omega)
    have h2 : (w + 1) * (w + 1) = w * (w + 1) + (w + 1) := by grind
    have h3 : 0 ≤ w * (w + 1) := Int.mul_nonneg h0 (by omega)
    omega⟩
  have h1 := least_is hex
  unfold rt
  generalize hn : (least fun n => w < ((n : Int) + 1) * ((n : Int) + 1)) = n at *
  refine ⟨by omega, ?_, h1⟩
  cases n with
  | zero => simpa using h0
  | succ m =>
    have hm : ¬ w < ((m : Int) + 1) * ((m : Int) + 1) := fun hlt => by
      have := least_le (P := fun n : Nat => w < ((n : Int) + 1) * ((n : Int) + 1)) hlt
      omega
    have e : ((m + 1 : Nat) : Int) = (m : Int) + 1 := by omega
    rw [e]
    omega

theorem rt_eq {w s : Int} (h0 : 0 ≤ s) (h1 : s * s ≤ w) (h2 : w < (s + 1) * (s + 1)) : s = rt w := by
  have hw : 0 ≤ w := by have := Int.mul_nonneg h0 h0; omega
  obtain ⟨r0, r1, r2⟩ := rt_spec hw
  by_cases ha : s < rt w
  · have := sq_le (show 0 ≤ s + 1 by omega) (show s + 1 ≤ rt w by omega)
    omega
  · by_cases hb : rt w < s
    · have := sq_le (show 0 ≤ rt w + 1 by omega) (show rt w + 1 ≤ s by omega)
      omega
    · omega

theorem rt_lt {w : Int} (h : Dok w) : rt w < 18446744073709551616 := by
  obtain ⟨r0, r1, r2⟩ := rt_spec h.1
  by_cases hb : 18446744073709551616 ≤ rt w
  · have := sq_le (show (0 : Int) ≤ 18446744073709551616 by omega) hb
    have := h.2
    omega
  · omega

theorem spec.theodoliteref03_Root {a b : Int} {u : H} {K : Int → H → Prop} (ha : U64 a) (hb : U64 b) (h : K (rt (wv a b)) u) : C.theodoliteref03_Root a b u K := by
  apply vc.theodoliteref03_Root
  have hw0 : 0 ≤ wv a b := by unfold wv; obtain ⟨_, _⟩ := ha; obtain ⟨_, _⟩ := hb; omega
  have hw1 : wv a b < 340282366920938463463374607431768211456 := by unfold wv; obtain ⟨_, _⟩ := ha; obtain ⟨_, _⟩ := hb; omega
  generalize hw : wv a b = w at *
  refine ⟨fun hi lo v => v = u ∧ 0 ≤ lo ∧ lo ≤ hi ∧ hi ≤ 18446744073709551615 ∧ lo * lo ≤ w ∧ w < (hi + 1) * (hi + 1), fun hi lo _ => (hi - lo).toNat, ⟨rfl, by omega, by omega, by omega, by omega, by omega⟩, ?_⟩
  rintro hi lo v ⟨rfl, l0, l1, l2, l3, l4⟩
  refine ⟨fun hlt => ⟨by decide, ?_⟩, fun hge => ?_⟩
  · have t1 : Int.tdiv (hi - lo) 2 = (hi - lo) / 2 := Int.tdiv_eq_ediv_of_nonneg (by omega)
    have e : IntKind.wrap .u64 ((IntKind.wrap .u64 (lo + (IntKind.wrap .u64 (Int.tdiv (IntKind.wrap .u64 (hi - lo)) 2)))) + 1) = lo + (hi - lo) / 2 + 1 := by
      rw [IntWalk.u64_in (hi - lo) (by omega), t1, IntWalk.u64_in ((hi - lo) / 2) (by omega), IntWalk.u64_in (lo + (hi - lo) / 2) (by omega), IntWalk.u64_in _ (by omega)]
    rw [e]
    generalize hm : lo + (hi - lo) / 2 + 1 = m
    have m0 : lo < m ∧ m ≤ hi := by omega
    have hmU : U64 m := ⟨by omega, by omega⟩
    refine spec.theodoliteref01_Mul hmU hmU ⟨H.le.refl v, ?_⟩
    have hmm : Dok (m * m) := ⟨Int.mul_nonneg (by omega) (by omega), by
      have := sq_le (show 0 ≤ m by omega) (show m ≤ 18446744073709551615 by omega)
      omega⟩
    refine spec.theodoliteref01_Less ha hb (hiU hmm) (loU _) ?_
    rw [hw, wv_hl]
    have e1 : IntKind.wrap .u64 (m - 1) = m - 1 := IntWalk.u64_in _ (by omega)
    rw [e1]
    refine ⟨fun ht => ⟨⟨rfl, l0, by omega, by omega, l3, ?_⟩, by dsimp only; omega⟩, fun hf => ⟨⟨rfl, by omega, by omega, l2, ?_, l4⟩, by dsimp only; omega⟩⟩
    · have := of_decide_eq_true ht
      rw [show m - 1 + 1 = m by omega]
      exact this
    · have := of_decide_eq_false hf
      omega
  · have : lo = hi := by omega
    subst this
    rw [rt_eq l0 l3 l4]
    exact h

/-- How near a box may be. -/
def boxTo (lo hi q : List Int) : Nat → Int
  | 0 => 0
  | n + 1 => boxTo lo hi q n + (if q.getD n 0 < lo.getD n 0 then sqd (lo.getD n 0) (q.getD n 0) else 0) + (if hi.getD n 0 < q.getD n 0 then sqd (q.getD n 0) (hi.getD n 0) else 0)

theorem boxTo_le {lo hi q : List Int} (hl : vok lo) (hh : vok hi) (hq : vok q) (e1 : lo.length = q.length) (e2 : hi.length = q.length) : ∀ n, n ≤ q.length → 0 ≤ boxTo lo hi q n ∧ boxTo lo hi q n ≤ n * 36893488113059364872 := by
  intro n
  induction n with
  | zero => intro _; simp [boxTo]
  | succ n ih =>
    intro hn
    obtain ⟨i0, i1⟩ := ih (by omega)
    have a1 := sqd_le (hl.2 n (by omega)) (hq.2 n (by omega))
    have a2 := sqd_le (hq.2 n (by omega)) (hh.2 n (by omega))
    unfold boxTo
    split <;> split <;> omega

/-- How near a ball may be. -/
noncomputable def ballTo (d rad : Int) : Int := if (if rt rad * rt rad = rad then rt rad else rt rad + 1) < rt d then (rt d - (if rt rad * rt rad = rad then rt rad else rt rad + 1)) * (rt d - (if rt rad * rt rad = rad then rt rad else rt rad + 1)) else 0

/-- How near a region may be. -/
noncomputable def nearR (r : Rgn) (q : List Int) : Int := if r.sh = 2 then boxTo r.lo r.hi q q.length else if r.sh = 3 then ballTo (sqTo r.lo q r.lo.length) r.rad else 0

theorem ballTo_ok {d rad : Int} (hd : Dok d) (hr : Dok rad) : Dok (ballTo d rad) := by
  unfold ballTo
  have h1 := rt_lt hd
  have h2 := (rt_spec hd.1).1
  have h3 := (rt_spec hr.1).1
  generalize ht : (if rt rad * rt rad = rad then rt rad else rt rad + 1) = t
  have t0 : 0 ≤ t := by rw [← ht]; split <;> omega
  split
  · rename_i hlt
    refine ⟨Int.mul_nonneg (by omega) (by omega), ?_⟩
    have := sq_le (show 0 ≤ rt d - t by omega) (show rt d - t ≤ 18446744073709551615 by omega)
    omega
  · exact ⟨by omega, by omega⟩

theorem nearR_ok {r : Rgn} {q : List Int} (hr : RegOk r q.length) (hq : vok q) : Dok (nearR r q) := by
  unfold nearR
  rcases hr.shape with ⟨e, _⟩ | ⟨e, _, v1, v2, l1, l2, hle⟩ | ⟨e, e2, v1, l1, hrad⟩
  · rw [if_neg (by omega), if_neg (by omega)]; exact ⟨by omega, by omega⟩
  · rw [if_pos e]
    have := boxTo_le v1 v2 hq (by omega) (by omega) q.length (Nat.le_refl _)
    have := hq.1
    exact ⟨by omega, by omega⟩
  · rw [if_neg (by omega), if_pos e]
    exact ballTo_ok (sqTo_ok v1 hq (by omega)) hrad

theorem wv_U {x y : Int} (_hx : U64 x) (hy : U64 y) : x = hiW (wv x y) ∧ y = loW (wv x y) := by
  unfold U64 at *
  unfold hiW loW wv
  omega

theorem hl_inj {x y : Int} (h1 : hiW x = hiW y) (h2 : loW x = loW y) : x = y := by
  rw [← wv_hl x, ← wv_hl y, h1, h2]

theorem spec.theodoliteref03_Near {r : Rgn} {t : Sl} {q : List Int} {u : H} {K : Int → Int → H → Prop} (h1 : Ints u r.ls r.lo) (h2 : Ints u r.hs r.hi) (hr : RegOk r q.length) (ht : Ints u t q) (hq : vok q)
    (h : K (hiW (nearR r q)) (loW (nearR r q)) u) : C.theodoliteref03_Near r.sh r.ls r.hs (hiW r.rad) (loW r.rad) r.is t u K := by
  have n1 := h1.len
  have n2 := h2.len
  have nq := ht.len
  have hd := hr.dim
  have z : U64 0 := ⟨by omega, by omega⟩
  unfold nearR at h
  apply vc.theodoliteref03_Near
  rcases hr.shape with ⟨e, _⟩ | ⟨e, _, v1, v2, l1, l2, hle⟩ | ⟨e, e2, v1, l1, hrad⟩
  · rw [if_neg (by omega), if_neg (by omega)] at h
    exact ⟨fun h => by omega, fun _ => ⟨fun h => by omega, fun _ => h⟩⟩
  · rw [if_pos e] at h
    refine ⟨fun _ => ?_, fun hne => absurd e hne⟩
    refine ⟨fun i x y w => w = u ∧ 0 ≤ i ∧ i ≤ t.n ∧ U64 x ∧ U64 y ∧ wv x y = boxTo r.lo r.hi q i.toNat, fun i _ _ _ => ((t.n : Int) - i).toNat, ⟨rfl, by omega, by omega, z, z, rfl⟩, ?_⟩
    rintro i x y w ⟨rfl, i0, i1, hx, hy, hw⟩
    refine ⟨fun hi => ?_, fun hi => ?_⟩
    · obtain ⟨p, hp, c0⟩ := ht.at i0 hi
      obtain ⟨p1, hp1, c1⟩ := h1.at i0 (show i < (r.ls.n : Int) by omega)
      obtain ⟨p2, hp2, c2⟩ := h2.at i0 (show i < (r.hs.n : Int) by omega)
      have k0 := hq.2 i.toNat (by omega)
      have k1 := v1.2 i.toNat (by omega)
      have k2 := v2.2 i.toNat (by omega)
      have s1 := sqd_le k1 k0
      have s2 := sqd_le k0 k2
      have hb := boxTo_le v1 v2 hq (by omega) (by omega) i.toNat (by omega)
      have h64 := hq.1
      have eb : boxTo r.lo r.hi q (i + 1).toNat = boxTo r.lo r.hi q i.toNat + (if q.getD i.toNat 0 < r.lo.getD i.toNat 0 then sqd (r.lo.getD i.toNat 0) (q.getD i.toNat 0) else 0) + (if r.hi.getD i.toNat 0 < q.getD i.toNat 0 then sqd (q.getD i.toNat 0) (r.hi.getD i.toNat 0) else 0) := by
        rw [show (i + 1).toNat = i.toNat + 1 by omega]
        rfl
      unfold coordOk at k0 k1 k2
      have hi64 : (i.toNat : Int) ≤ 64 := by omega
      have hbb : boxTo r.lo r.hi q i.toNat ≤ 64 * 36893488113059364872 := by
        have := Int.mul_le_mul_of_nonneg_right hi64 (show (0 : Int) ≤ 36893488113059364872 by omega)
        omega
      intro K6 h6
      have second : ∀ x' y', U64 x' → U64 y' → wv x' y' = boxTo r.lo r.hi q i.toNat + (if q.getD i.toNat 0 < r.lo.getD i.toNat 0 then sqd (r.lo.getD i.toNat 0) (q.getD i.toNat 0) else 0) → K6 x' y' w := by
        intro x' y' hx' hy' hw'
        have hw'' : 0 ≤ wv x' y' ∧ wv x' y' ≤ 65 * 36893488113059364872 := by
          rw [hw']
          split <;> omega
        refine h6 _ _ _ ⟨p, hp, ⟨i0, hi⟩, _, c0, p2, hp2, ⟨i0, by omega⟩, _, c2, fun hlt => ?_, fun hge => ⟨⟨by omega, by omega⟩, ⟨rfl, by omega, by omega, hx', hy', by rw [eb, if_neg hge, hw']; omega⟩, by dsimp only; omega⟩⟩
        refine ⟨p, hp, ⟨i0, hi⟩, _, c0, p2, hp2, ⟨i0, by omega⟩, _, c2, ⟨by omega, by omega⟩, spec.theodoliteref03_Square (by omega) ⟨H.le.refl _, ?_⟩⟩
        have hu2 : U64 ((q.getD i.toNat 0 - r.hi.getD i.toNat 0) * (q.getD i.toNat 0 - r.hi.getD i.toNat 0)) := ⟨s2.1, by have := s2.2; unfold sqd at this; omega⟩
        have hwv2 : wv 0 ((q.getD i.toNat 0 - r.hi.getD i.toNat 0) * (q.getD i.toNat 0 - r.hi.getD i.toNat 0)) = sqd (q.getD i.toNat 0) (r.hi.getD i.toNat 0) := by unfold wv sqd; omega
        refine spec.theodoliteref03_Sum hx' hy' z hu2 (by rw [hwv2]; omega) fun c d hc hdd hcd => ⟨⟨by omega, by omega⟩, ⟨rfl, by omega, by omega, hc, hdd, ?_⟩, by dsimp only; omega⟩
        rw [hcd, hw', hwv2, eb, if_pos hlt]
      refine ⟨p, hp, ⟨i0, hi⟩, _, c0, p1, hp1, ⟨i0, by omega⟩, _, c1, fun hlt => ?_, fun hge => second x y hx hy (by rw [hw, if_neg hge]; omega)⟩
      refine ⟨p, hp, ⟨i0, hi⟩, p1, hp1, ⟨i0, by omega⟩, _, c1, _, c0, ⟨by omega, by omega⟩, spec.theodoliteref03_Square (by omega) ⟨H.le.refl _, ?_⟩⟩
      have hu1 : U64 ((r.lo.getD i.toNat 0 - q.getD i.toNat 0) * (r.lo.getD i.toNat 0 - q.getD i.toNat 0)) := ⟨s1.1, by have := s1.2; unfold sqd at this; omega⟩
      have hwv1 : wv 0 ((r.lo.getD i.toNat 0 - q.getD i.toNat 0) * (r.lo.getD i.toNat 0 - q.getD i.toNat 0)) = sqd (r.lo.getD i.toNat 0) (q.getD i.toNat 0) := by unfold wv sqd; omega
      refine spec.theodoliteref03_Sum hx hy z hu1 (by rw [hwv1]; omega) fun c d hc hdd hcd => second c d hc hdd (by rw [hcd, hw, hwv1, if_pos hlt])
    · have : i.toNat = q.length := by omega
      rw [this] at hw
      obtain ⟨g1, g2⟩ := wv_U hx hy
      rw [hw] at g1 g2
      rw [g1, g2]
      exact h
  · rw [if_neg (by omega), if_pos e] at h
    refine ⟨fun h => by omega, fun _ => ⟨fun _ => ?_, fun hne => absurd e hne⟩⟩
    refine spec.theodoliteref03_Far h1 ht v1 hq (by omega) fun x y hx hy hw => ?_
    have hdk := sqTo_ok v1 hq (show r.lo.length = q.length by omega)
    refine spec.theodoliteref03_Root hx hy (spec.theodoliteref03_Root (hiU hrad) (loU _) ?_)
    rw [wv_hl, hw]
    have s0 := rt_spec hdk.1
    have s1 := rt_lt hdk
    have t0 := rt_spec hrad.1
    have t1 := rt_lt hrad
    unfold ballTo at h
    generalize hs : rt (sqTo r.lo q r.lo.length) = s at *
    generalize htt : rt r.rad = tt at *
    intro K45 h45
    have go : ∀ T : Int, 0 ≤ T → (K (hiW (if T < s then (s - T) * (s - T) else 0)) (loW (if T < s then (s - T) * (s - T) else 0)) u) → K45 T 0 0 u := fun T hT hKT => by
      refine h45 _ _ _ _ ⟨fun hlt => ?_, fun hge => ?_⟩
      · rw [if_pos hlt] at hKT
        have e1 : IntKind.wrap .u64 (s - T) = s - T := IntWalk.u64_in _ (by omega)
        rw [e1]
        exact spec.theodoliteref01_Mul ⟨by omega, by omega⟩ ⟨by omega, by omega⟩ hKT
      · rw [if_neg hge] at hKT
        exact hKT
    refine spec.theodoliteref01_Mul ⟨t0.1, by omega⟩ ⟨t0.1, by omega⟩ ⟨H.le.refl _, fun hne => ?_, fun he => ?_⟩
    · have hne' : ¬ tt * tt = r.rad := fun e => hne (by rw [e]; exact ⟨rfl, rfl⟩)
      rw [if_neg hne'] at h
      refine ⟨fun hge => ?_, fun hlt => ?_⟩
      · rw [if_neg (by omega)] at h
        exact h
      · have e1 : IntKind.wrap .u64 (tt + 1) = tt + 1 := IntWalk.u64_in _ (by omega)
        rw [e1]
        exact go _ (by omega) h
    · have he' : tt * tt = r.rad := hl_inj he.1 he.2
      rw [if_pos he'] at h
      exact go _ t0.1 h

/-- Is an answer certain? -/
def CertA (q : List Int) (k : Int) (hits : List Hit) (rest : List Rgn) : Prop := rest = [] ∨ (k ≤ hits.length ∧ ∀ r ∈ rest, (hits.getD (k - 1).toNat default).2 < nearR r q)

open Classical in
theorem spec.theodoliteref05_Certain {t sh ss sr : Sl} {q : List Int} {k : Int} {hits : List Hit} {seen : List Int} {rest : List Rgn} {u : H} {K : Bool → H → Prop} (ha : AnsR u sh ss sr hits seen rest) (ht : Ints u t q) (hq : vok q) (hk : 1 ≤ k) (hd : ∀ g ∈ hits, Dok g.2) (hr : ∀ r ∈ rest, RegOk r q.length)
    (h : K (decide (CertA q k hits rest)) u) : C.theodoliteref05_Certain t k sh ss sr u K := by
  have nr := ha.r.len
  have nh := ha.h.len
  have mr := ha.r.max
  have mh := ha.h.max
  have key : ∀ bb : Bool, (bb = true ↔ CertA q k hits rest) → K bb u := fun bb hb => by
    have : bb = decide (CertA q k hits rest) := by
      cases bb with
      | true => exact (decide_eq_true (hb.1 rfl)).symm
      | false => exact (decide_eq_false fun hc => by have := hb.2 hc; cases this).symm
    rw [this]; exact h
  apply vc.theodoliteref05_Certain
  refine ⟨fun hn => key _ ⟨fun _ => .inl (List.eq_nil_of_length_eq_zero (by omega)), fun _ => rfl⟩, fun hn => ?_⟩
  have hne : rest ≠ [] := fun e => hn (by rw [nr, e]; rfl)
  refine ⟨fun hlt => key _ ⟨fun e => (by cases e), fun hc => ?_⟩, fun hge => ?_⟩
  · rcases hc with hc | ⟨hc, _⟩
    · exact absurd hc hne
    · omega
  obtain ⟨p, hp, g, hg, c0, c1, c2⟩ := ha.h.at (x := k - 1) (by omega) (by omega)
  have eg : hits.getD (k - 1).toNat default = g := by rw [List.getD_eq_getElem?_getD, hg]; rfl
  have hgm := List.mem_of_getElem? hg
  refine ⟨fun _ x v => v = u ∧ 0 ≤ x ∧ ∀ r ∈ rest.take x.toNat, g.2 < nearR r q, fun _ x _ => ((sr.n : Int) - x).toNat, ⟨rfl, by omega, fun r hr => (by simp at hr)⟩, fun b x v hI => ⟨fun hx => ?_, fun hx => ?_⟩⟩
  · obtain ⟨rfl, x0, hI⟩ := hI
    obtain ⟨p2, hp2, r, hr', d0, d1, d2, d3, d4, d5⟩ := ha.r.at x0 hx
    have hrm := List.mem_of_getElem? hr'
    obtain ⟨r1, r2, r3⟩ := ha.r.2 r hrm
    refine ⟨⟨by omega, by omega⟩, p, hp, ⟨by omega, by omega⟩, _, c1, _, by rw [Addr.add_add']; exact c2, p2, hp2, ⟨x0, hx⟩, _, d0, _, d1, _, d2, _, d3, _, d4, _, d5, ?_⟩
    refine spec.theodoliteref03_Near r1 r2 (hr r hrm) ht hq ⟨H.le.refl _, ?_⟩
    refine spec.theodoliteref01_Less (hiU (hd g hgm)) (loU _) (hiU (nearR_ok (hr r hrm) hq)) (loU _) ?_
    rw [wv_hl, wv_hl]
    refine ⟨fun hf => key _ ⟨fun e => (by cases e), fun hc => ?_⟩, fun hlt => ⟨⟨by omega, by omega⟩, ⟨rfl, by omega, fun y hy => ?_⟩, by dsimp only; omega⟩⟩
    · rcases hc with hc | ⟨_, hc⟩
      · exact absurd hc hne
      · have := hc r hrm
        rw [eg] at this
        exact absurd (decide_eq_true this) hf
    · rw [show (x + 1).toNat = x.toNat + 1 by omega, List.take_add_one, hr'] at hy
      rcases List.mem_append.1 hy with h1 | h1
      · exact hI y h1
      · simp at h1; rw [h1]; exact of_decide_eq_true hlt
  · obtain ⟨rfl, x0, hI⟩ := hI
    rw [List.take_of_length_le (by omega)] at hI
    exact key _ ⟨fun _ => .inr ⟨by omega, fun r hrm => by rw [eg]; exact hI r hrm⟩, fun _ => rfl⟩

open Classical in
/-- An answer that obeys: it may have stopped where it is certain. -/
theorem spec.obeysC {s t sh ss sr : Sl} {l : List Rw} {q : List Int} {k b : Int} {hits : List Hit} {seen : List Int} {rest : List Rgn} {u : H} {K : Bool → H → Prop} (hs : Rws u s l) (ht : Ints u t q) (hq : Qok l q) (k1 : 1 ≤ k)
    (ha : AnsR u sh ss sr hits seen rest) (hS : Sound l q k hits seen rest) (hd : ∀ g ∈ hits, Dok g.2) (hb : (seen.length : Int) ≤ b) (hb2 : (seen.length : Int) = b ∨ seen.length = l.length ∨ CertA q k hits rest) (h : K true u) : C.theodoliteref05_Obeys s t k b sh ss sr u K := by
  have hn := hs.len
  have nS := ha.s.len
  apply vc.theodoliteref05_Obeys
  intro K0 hK0
  refine spec.theodoliteref05_Sound hs ht hq (by omega) ha hS ⟨fun hb => absurd rfl hb, fun _ => ⟨fun h => by omega, fun _ => hK0 _ _ ⟨fun _ => h, fun h1 => ⟨fun _ => h, fun h2 => ?_⟩⟩⟩⟩
  refine spec.theodoliteref05_Certain ha ht hq.vq k1 hd (fun r hr => (hS.reg r hr).1) ?_
  have hc : CertA q k hits rest := by
    rcases hb2 with h3 | h3 | h3
    · omega
    · omega
    · exact h3
  rw [decide_eq_true hc]
  exact h

end Go.Proofs.YtncgdoeobblnkaaGreat

/- VcSpoil -/
namespace Go.Proofs.YtncgdoeobblnkaaGreat

/-! ### slices that share no block -/

def Far (a b : Sl) : Prop := ∀ g, a.blk = some g → b.blk ≠ some g
theorem Far.symm {a b : Sl} (h : Far a b) : Far b a := fun g hg hg2 => h g hg2 hg

/-- What lies in no block of these stays. -/
def Keep (D : List Sl) (u v : H) : Prop := ∀ b o, u b = some o → (∀ s ∈ D, s.blk ≠ some b) → v b = some o

theorem Keep.refl (D : List Sl) (u : H) : Keep D u u := fun _ _ h _ => h
theorem Keep.trans {D : List Sl} {u v w : H} (h : Keep D u v) (k : Keep D v w) : Keep D u w := fun b o hb hd => k b o (h b o hb hd) hd
theorem Else.keep {D : List Sl} {u v : H} {s : Sl} (h : Else u v s) (hs : s ∈ D) : Keep D u v := fun b o hb hd => h b o hb (hd s hs)

theorem Keep.own {D : List Sl} {u0 u v : H} {e k : Nat} {t : Sl} {xs : List Value} (hk : Keep D u v) (h : OwnF u0 u e k t xs) (hf : ∀ s ∈ D, ∀ g, s.blk = some g → u0 g = none) (hd : ∀ s ∈ D, Far s t) : OwnF u0 v e k t xs :=
  ⟨h.own.le fun b o hb hu => hk b o hu fun s hs hg => hd s hs b hg hb, fun b o hb => hk b o (h.le b o hb) fun s hs hg => (by rw [hf s hs b hg] at hb; cases hb), h.fresh⟩

theorem OwnF.far {u0 u1 u v : H} {e k e' k' : Nat} {s t : Sl} {xs ys : List Value} (h : OwnF u0 u e k s xs) (hu : u.le u1) (h' : OwnF u1 v e' k' t ys) : Far s t := fun g hg hg2 => by
  have h1 := h'.fresh g hg2
  have h2 := own_known h hg
  cases hx : u g with
  | none => exact h2 hx
  | some o => rw [hu _ _ hx] at h1; cases h1

/-- The lists of a region. -/
def Rgn.sls (r : Rgn) : List Sl := [r.ls, r.hs, r.is]

structure Own3 (u0 u : H) (r : Rgn) : Prop where
  l : OwnF u0 u 3 1 r.ls (r.lo.flatMap encI)
  h : OwnF u0 u 3 1 r.hs (r.hi.flatMap encI)
  i : OwnF u0 u 3 1 r.is (r.ids.flatMap encI)

theorem Keep.own3 {D : List Sl} {u0 u v : H} {r : Rgn} (hk : Keep D u v) (h : Own3 u0 u r) (hf : ∀ s ∈ D, ∀ g, s.blk = some g → u0 g = none) (hd : ∀ s ∈ D, ∀ t ∈ r.sls, Far s t) : Own3 u0 v r :=
  ⟨hk.own h.l hf fun s hs => hd s hs _ (by simp [Rgn.sls]), hk.own h.h hf fun s hs => hd s hs _ (by simp [Rgn.sls]), hk.own h.i hf fun s hs => hd s hs _ (by simp [Rgn.sls])⟩

/-- All slices of an answer. -/
def ansS (sh ss sr : Sl) (rest : List Rgn) : List Sl := sh :: ss :: sr :: rest.flatMap Rgn.sls

/-- An answer of one's own. -/
structure AnsO (u0 u : H) (sh ss sr : Sl) (hits : List Hit) (seen : List Int) (rest : List Rgn) : Prop where
  h : OwnF u0 u 66 3 sh (hits.flatMap encH)
  s : OwnF u0 u 3 1 ss (seen.flatMap encI)
  r : OwnF u0 u 93 6 sr (rest.flatMap encG)
  g : ∀ r ∈ rest, Own3 u0 u r
  far : (ansS sh ss sr rest).Pairwise Far

theorem AnsO.fresh {u0 u : H} {sh ss sr : Sl} {hits : List Hit} {seen : List Int} {rest : List Rgn} (h : AnsO u0 u sh ss sr hits seen rest) : ∀ s ∈ ansS sh ss sr rest, ∀ g, s.blk = some g → u0 g = none := by
  intro s hs
  simp only [ansS, List.mem_cons, List.mem_flatMap] at hs
  rcases hs with rfl | rfl | rfl | ⟨r, hr, hs⟩
  · exact h.h.fresh
  · exact h.s.fresh
  · exact h.r.fresh
  · have := h.g r hr
    simp only [Rgn.sls, List.mem_cons, List.not_mem_nil, or_false] at hs
    rcases hs with rfl | rfl | rfl
    · exact this.l.fresh
    · exact this.h.fresh
    · exact this.i.fresh

theorem AnsO.known {u0 u : H} {sh ss sr : Sl} {hits : List Hit} {seen : List Int} {rest : List Rgn} (h : AnsO u0 u sh ss sr hits seen rest) : ∀ s ∈ ansS sh ss sr rest, ∀ g, s.blk = some g → u g ≠ none := by
  intro s hs g hg
  simp only [ansS, List.mem_cons, List.mem_flatMap] at hs
  rcases hs with rfl | rfl | rfl | ⟨r, hr, hs⟩
  · exact own_known h.h hg
  · exact own_known h.s hg
  · exact own_known h.r hg
  · have := h.g r hr
    simp only [Rgn.sls, List.mem_cons, List.not_mem_nil, or_false] at hs
    rcases hs with rfl | rfl | rfl
    · exact own_known this.l hg
    · exact own_known this.h hg
    · exact own_known this.i hg

theorem AnsO.mono {u0 u u' : H} {sh ss sr : Sl} {hits : List Hit} {seen : List Int} {rest : List Rgn} (h : AnsO u0 u sh ss sr hits seen rest) (k : u.le u') : AnsO u0 u' sh ss sr hits seen rest :=
  ⟨h.h.mono k, h.s.mono k, h.r.mono k, fun r hr => ⟨(h.g r hr).l.mono k, (h.g r hr).h.mono k, (h.g r hr).i.mono k⟩, h.far⟩

theorem AnsO.le {u0 u : H} {sh ss sr : Sl} {hits : List Hit} {seen : List Int} {rest : List Rgn} (h : AnsO u0 u sh ss sr hits seen rest) : u0.le u := h.h.le

theorem AnsO.read {u0 u : H} {sh ss sr : Sl} {hits : List Hit} {seen : List Int} {rest : List Rgn} (h : AnsO u0 u sh ss sr hits seen rest) : AnsR u sh ss sr hits seen rest :=
  ⟨h.h.hts, h.s.ints, h.r.own.seg, fun r hr => ⟨(h.g r hr).l.ints, (h.g r hr).h.ints, (h.g r hr).i.ints⟩⟩

/-- Where what was new stays, the answer stays. -/
theorem AnsO.else {u0 u u' : H} {sh ss sr : Sl} {hits : List Hit} {seen : List Int} {rest : List Rgn} (h : AnsO u0 u sh ss sr hits seen rest) (he : ∀ b o, u0 b = none → u b = some o → u' b = some o) : AnsR u' sh ss sr hits seen rest := by
  have one : ∀ {e k : Nat} {s : Sl} {xs : List Value}, OwnF u0 u e k s xs → Seg u' s k xs := fun ho => (ho.own.le (u' := u') fun b o hb hu => he b o (ho.fresh b hb) hu).seg
  have ints : ∀ {e : Nat} {s : Sl} {l : List Int}, OwnF u0 u e 1 s (l.flatMap encI) → Ints u' s l := fun ho => by
    have := one ho
    rw [flatI] at this
    exact this
  exact ⟨one h.h, ints h.s, one h.r, fun r hr => ⟨ints (h.g r hr).l, ints (h.g r hr).h, ints (h.g r hr).i⟩⟩

/-! ### two answers alike -/

/-- What a region tells. -/
def Rgn.core (r : Rgn) : Int × Int × List Int × List Int × List Int := (r.sh, r.rad, r.lo, r.hi, r.ids)

/-! ### an answer written over -/

end Go.Proofs.YtncgdoeobblnkaaGreat

/- VcSure -/
namespace Go.Proofs.YtncgdoeobblnkaaGreat

/-! ### sums of products -/

def dotN (x y : Nat → Int) : Nat → Int
  | 0 => 0
  | n + 1 => dotN x y n + x n * y n

theorem dotN_sq (x : Nat → Int) (n : Nat) : 0 ≤ dotN x x n := by
  induction n with
  | zero => exact Int.le_refl _
  | succ n ih =>
    have : 0 ≤ x n * x n := by
      by_cases h : 0 ≤ x n
      · exact Int.mul_nonneg h h
      · exact Int.mul_nonneg_of_nonpos_of_nonpos (by omega) (by omega)
    unfold dotN
    omega

theorem dotN_lin (a b : Int) (x y : Nat → Int) (n : Nat) : dotN (fun i => a * x i - b * y i) (fun i => a * x i - b * y i) n = a * a * dotN x x n - 2 * (a * b) * dotN x y n + b * b * dotN y y n := by
  induction n with
  | zero => simp [dotN]
  | succ n ih =>
    unfold dotN
    rw [ih]
    generalize dotN x x n = p
    generalize dotN x y n = q
    generalize dotN y y n = r
    generalize x n = u
    generalize y n = v
    grind

/-- The square of a sum of products is not above the product of the sums of squares. -/
theorem cauchy (x y : Nat → Int) (n : Nat) : dotN x y n * dotN x y n ≤ dotN x x n * dotN y y n := by
  have hx := dotN_sq x n
  have hy := dotN_sq y n
  have h := fun a b => (dotN_lin a b x y n) ▸ dotN_sq (fun i => a * x i - b * y i) n
  generalize dotN x x n = p at *
  generalize dotN y y n = r at *
  generalize dotN x y n = q at *
  by_cases hr : 0 < r
  · have h1 := h r q
    have e : r * r * p - 2 * (r * q) * q + q * q * r = r * (p * r - q * q) := by grind
    rw [e] at h1
    by_cases hc : 0 ≤ p * r - q * q
    · omega
    · have := Int.mul_neg_of_pos_of_neg hr (show p * r - q * q < 0 by omega)
      omega
  · have hr0 : r = 0 := by omega
    subst hr0
    have h1 := h 1 (p + 1)
    have h2 := h 1 (-(p + 1))
    have e1 : (1 : Int) * 1 * p - 2 * (1 * (p + 1)) * q + (p + 1) * (p + 1) * 0 = p - 2 * ((p + 1) * q) := by grind
    have e2 : (1 : Int) * 1 * p - 2 * (1 * (-(p + 1))) * q + (-(p + 1)) * (-(p + 1)) * 0 = p + 2 * ((p + 1) * q) := by grind
    rw [e1] at h1
    rw [e2] at h2
    have hq : q = 0 := by
      by_cases h3 : 1 ≤ q
      · have : (p + 1) * 1 ≤ (p + 1) * q := Int.mul_le_mul_of_nonneg_left h3 (by omega)
        omega
      · by_cases h4 : q ≤ -1
        · have : (p + 1) * q ≤ (p + 1) * (-1) := Int.mul_le_mul_of_nonneg_left h4 (by omega)
          omega
        · omega
    rw [hq]
    omega

theorem sqTo_dot (a b : List Int) (n : Nat) : sqTo a b n = dotN (fun i => a.getD i 0 - b.getD i 0) (fun i => a.getD i 0 - b.getD i 0) n := by
  induction n with
  | zero => rfl
  | succ n ih => unfold sqTo dotN; rw [ih]; rfl

theorem sqTo_three (c v q : List Int) (n : Nat) : sqTo c q n = sqTo c v n + sqTo v q n + 2 * dotN (fun i => c.getD i 0 - v.getD i 0) (fun i => v.getD i 0 - q.getD i 0) n := by
  induction n with
  | zero => rfl
  | succ n ih =>
    unfold sqTo dotN sqd
    rw [ih]
    generalize c.getD n 0 = x
    generalize v.getD n 0 = y
    generalize q.getD n 0 = z
    grind

theorem ball_low {D E F P rad : Int} (hD : D = E + F + 2 * P) (hE : 0 ≤ E) (hF : 0 ≤ F) (hD0 : 0 ≤ D) (hC : P * P ≤ E * F) (hEr : E ≤ rad) : ballTo D rad ≤ F := by
  obtain ⟨s0, s1, _⟩ := rt_spec hD0
  obtain ⟨t0, t1, t2⟩ := rt_spec (show 0 ≤ rad by omega)
  unfold ballTo
  generalize hT : (if rt rad * rt rad = rad then rt rad else rt rad + 1) = T
  have T0 : 0 ≤ T ∧ rad ≤ T * T := by
    rw [← hT]
    split
    · rename_i e; exact ⟨t0, by omega⟩
    · exact ⟨by omega, by omega⟩
  generalize rt D = s at *
  split
  · rename_i hlt
    by_cases hc : (s - T) * (s - T) ≤ F
    · exact hc
    · exfalso
      by_cases hp : P ≤ T * (s - T)
      · have e : s * s = T * T + (s - T) * (s - T) + 2 * (T * (s - T)) := by grind
        omega
      · have hz : 0 ≤ T * (s - T) := Int.mul_nonneg T0.1 (by omega)
        have h1 := sq_lt hz (show T * (s - T) < P by omega)
        have h2 : E * F ≤ (T * T) * ((s - T) * (s - T)) := Int.mul_le_mul (by omega) (by omega) hF (by omega)
        have e : T * (s - T) * (T * (s - T)) = (T * T) * ((s - T) * (s - T)) := by grind
        omega
  · exact hF

theorem box_low {lo hi v q : List Int} : ∀ n, (∀ i, i < n → lo.getD i 0 ≤ v.getD i 0 ∧ v.getD i 0 ≤ hi.getD i 0) → boxTo lo hi q n ≤ sqTo v q n := by
  intro n
  induction n with
  | zero => intro _; exact Int.le_refl _
  | succ n ih =>
    intro h
    have h1 := ih fun i hi => h i (by omega)
    obtain ⟨h2, h3⟩ := h n (by omega)
    unfold boxTo sqTo sqd
    generalize lo.getD n 0 = a at *
    generalize hi.getD n 0 = b at *
    generalize v.getD n 0 = x at *
    generalize q.getD n 0 = y at *
    have hz : 0 ≤ (x - y) * (x - y) := by
      by_cases h : 0 ≤ x - y
      · exact Int.mul_nonneg h h
      · exact Int.mul_nonneg_of_nonpos_of_nonpos (by omega) (by omega)
    have e1 : y < a → (a - y) * (a - y) ≤ (x - y) * (x - y) := fun _ => sq_le (by omega) (by omega)
    have e2 : b < y → (y - b) * (y - b) ≤ (x - y) * (x - y) := fun _ => by
      have := sq_le (show 0 ≤ y - b by omega) (show y - b ≤ y - x by omega)
      have e : (y - x) * (y - x) = (x - y) * (x - y) := by grind
      omega
    split <;> split <;> omega

/-- What lies in a region is no nearer than its bound. -/
theorem near_low {r : Rgn} {q v : List Int} (hr : RegOk r q.length) (hv : v.length = q.length) (hvo : vok v) (hq : vok q) (hin : Inside r v) : nearR r q ≤ sqTo v q v.length := by
  unfold nearR
  have hF := (sqTo_le hvo hq v.length (Nat.le_refl _) (by omega)).1
  rcases hr.shape with ⟨e, _⟩ | ⟨e, _, v1, v2, l1, l2, hle⟩ | ⟨e, e2, v1, l1, hrad⟩
  · rw [if_neg (by omega), if_neg (by omega)]; exact hF
  · rw [if_pos e, ← hv]
    exact box_low _ fun i hi => hin.1 e i hi
  · rw [if_neg (by omega), if_pos e]
    have hl : r.lo.length = v.length := by omega
    have hE := (sqTo_le v1 hvo r.lo.length (Nat.le_refl _) (by omega)).1
    have hD := (sqTo_le v1 hq r.lo.length (Nat.le_refl _) (by omega)).1
    have h3 := sqTo_three r.lo v q r.lo.length
    have hEr := hin.2 e
    rw [hl] at hE hD h3 hEr ⊢
    refine ball_low h3 hE hF hD ?_ hEr
    rw [sqTo_dot r.lo v, sqTo_dot v q]
    exact cauchy _ _ _

/-! ### certain answers -/

theorem rowsOf : ∀ (S : List Int) (L : List Rw), S.Perm (L.map (·.id)) → ∃ m : List Rw, m.Perm L ∧ m.map (·.id) = S := by
  intro S
  induction S with
  | nil =>
    intro L h
    cases L with
    | nil => exact ⟨[], .refl _, rfl⟩
    | cons r L => have := h.length_eq; simp at this
  | cons x S ih =>
    intro L h
    obtain ⟨r, hr, hx⟩ := List.mem_map.1 (h.mem_iff.1 (List.mem_cons_self ..))
    obtain ⟨A, B, rfl⟩ := List.append_of_mem hr
    have h5 : S.Perm ((A ++ B).map (·.id)) := by
      have h6 : (x :: S).Perm (x :: (A ++ B).map (·.id)) := by
        refine h.trans ?_
        rw [List.map_append, List.map_cons, List.map_append, hx]
        exact List.perm_middle
      exact (List.perm_cons x).1 h6
    obtain ⟨m, hm1, hm2⟩ := ih _ h5
    exact ⟨r :: m, (hm1.cons r).trans List.perm_middle.symm, by rw [List.map_cons, hm2, hx]⟩

theorem topk_far {k : Nat} {a : List Hit} (ha : k ≤ a.length) : ∀ {b : List Hit}, (∀ x ∈ b, ∀ y ∈ topk k a, hlt x y = false) → topk k (b ++ a) = topk k a := by
  intro b
  induction b with
  | nil => intro _; rfl
  | cons x b ih =>
    intro h
    have h1 := ih fun z hz => h z (List.mem_cons_of_mem _ hz)
    rw [List.cons_append, topk_worse (by rw [List.length_append]; omega) (by rw [h1]; exact h x (List.mem_cons_self ..)), h1]

/-- The rows that a sound answer has seen, and those it has not. -/
theorem Sound.parts {L : List Rw} {q : List Int} {k : Int} {hits : List Hit} {seen : List Int} {rest : List Rgn} (h : Sound L q k hits seen rest) : ∃ m1 m2 : List Rw, (m1 ++ m2).Perm L ∧ m1.map (·.id) = seen ∧ m2.map (·.id) = rest.flatMap (·.ids) ∧ hits = topk k.toNat (m1.map (hitOf q)) := by
  obtain ⟨m, hm1, hm2⟩ := rowsOf _ L h.all
  have hs : (m.take seen.length).map (·.id) = seen := by rw [List.map_take, hm2, List.take_left]
  have hd : (m.drop seen.length).map (·.id) = rest.flatMap (·.ids) := by rw [List.map_drop, hm2, List.drop_left]
  refine ⟨m.take seen.length, m.drop seen.length, by rw [List.take_append_drop]; exact hm1, hs, hd, ?_⟩
  exact h.first _ (fun r hr => hm1.mem_iff.1 (List.mem_of_mem_take hr)) hs

theorem Sound.dok {L : List Rw} {q : List Int} {k : Int} {hits : List Hit} {seen : List Int} {rest : List Rgn} (h : Sound L q k hits seen rest) (hq : Qok L q) : ∀ g ∈ hits, Dok g.2 := by
  obtain ⟨m1, m2, hp, _, _, e⟩ := h.parts
  intro g hg
  rw [e] at hg
  obtain ⟨r, hr, rfl⟩ := List.mem_map.1 (topk_mem hg)
  exact hq.hit (hp.mem_iff.1 (List.mem_append_left _ hr))

/-- Regions of what they tell. -/
def rgnOf (z : Int × Int × List Int × List Int × List Int) : Rgn := ⟨z.1, ⟨none, 0, 0⟩, ⟨none, 0, 0⟩, z.2.1, ⟨none, 0, 0⟩, z.2.2.1, z.2.2.2.1, z.2.2.2.2⟩
theorem rgnOf_core (l : List (Int × Int × List Int × List Int × List Int)) : (l.map rgnOf).map Rgn.core = l := by
  rw [List.map_map]
  exact List.map_id' _

/-- A certain answer has the first of all rows. -/
theorem Sound.certain {L : List Rw} {q : List Int} {k : Int} {hits : List Hit} {seen : List Int} {rest : List Rgn} (h : Sound L q k hits seen rest) (hq : Qok L q) (hk : 1 ≤ k) (hc : CertA q k hits rest) : hits = topk k.toNat (L.map (hitOf q)) := by
  obtain ⟨m1, m2, hp, hs, hd, e⟩ := h.parts
  have hpm : ((m2 ++ m1).map (hitOf q)).Perm (L.map (hitOf q)) := (List.perm_append_comm.trans hp).map _
  rw [← topk_eq hpm, List.map_append]
  rcases hc with hc | ⟨hlen, hc⟩
  · have : m2 = [] := by
      have := congrArg List.length hd
      rw [hc] at this
      exact List.eq_nil_of_length_eq_zero (by simpa using this)
    rw [this, e]
    rfl
  · have hl : (topk k.toNat (m1.map (hitOf q))).length = k.toNat := by
      rw [← e]
      have := topk_len k.toNat (m1.map (hitOf q))
      rw [← e] at this
      omega
    have hml : k.toNat ≤ (m1.map (hitOf q)).length := by
      have := topk_len k.toNat (m1.map (hitOf q))
      omega
    rw [topk_far hml fun x hx y hy => ?_, e]
    obtain ⟨w, hw, rfl⟩ := List.mem_map.1 hx
    have hwL : w ∈ L := hp.mem_iff.1 (List.mem_append_right _ hw)
    have hid : w.id ∈ rest.flatMap (·.ids) := by rw [← hd]; exact List.mem_map_of_mem hw
    obtain ⟨r, hr, hri⟩ := List.mem_flatMap.1 hid
    obtain ⟨hreg, _, hall⟩ := h.reg r hr
    obtain ⟨w', hw', he, hin⟩ := hall _ hri
    have ew : w' = w := by
      have hnd := hq.rows.nodup
      rw [List.nodup_iff_pairwise_ne, List.pairwise_map, List.pairwise_iff_getElem] at hnd
      obtain ⟨i, hi, rfl⟩ := List.getElem_of_mem hw'
      obtain ⟨j, hj, rfl⟩ := List.getElem_of_mem hwL
      by_cases h1 : i < j
      · exact absurd he (hnd i j hi hj h1)
      · by_cases h2 : j < i
        · exact absurd he.symm (hnd j i hj hi h2)
        · have : i = j := by omega
          subst this
          rfl
    subst ew
    obtain ⟨hvl, hvo⟩ := hq.rows.v _ hw'
    have hlow := near_low hreg (by omega) hvo hq.vq hin
    have hfar := hc r hr
    -- the last of the hits is the farthest
    have hlast : y.2 ≤ (hits.getD (k - 1).toNat default).2 := by
      have hsrt := topk_srt k.toNat (m1.map (hitOf q))
      rw [← e] at hsrt hy hl
      obtain ⟨i, hi, rfl⟩ := List.getElem_of_mem hy
      have hki : (k - 1).toNat < hits.length := by omega
      rw [List.getD_eq_getElem?_getD, List.getElem?_eq_getElem hki]
      show hits[i].2 ≤ hits[(k - 1).toNat].2
      by_cases hij : i = (k - 1).toNat
      · subst hij; exact Int.le_refl _
      · have := List.pairwise_iff_getElem.1 hsrt i (k - 1).toNat hi hki (by omega)
        rw [hlt_not] at this
        omega
    rw [hlt_not]
    left
    show y.2 < sqTo w'.v q w'.v.length
    omega

theorem rok_pr {L' : List Rw} {d : Int} (hd : 1 ≤ d ∧ d ≤ 64) (hlen : L'.length ≤ 512) (hnd : (L'.map (·.id)).Nodup) (h : ∀ p ∈ L'.map Rw.pr, 1 ≤ p.1 ∧ p.1 ≤ 1000000000 ∧ (p.2.length : Int) = d ∧ vok p.2) : Rok L' d :=
  ⟨hd, hlen, fun r hr => ⟨(h r.pr (List.mem_map_of_mem hr)).1, (h r.pr (List.mem_map_of_mem hr)).2.1⟩, hnd, fun r hr => (h r.pr (List.mem_map_of_mem hr)).2.2⟩

end Go.Proofs.YtncgdoeobblnkaaGreat

/- VcNear -/
namespace Go.Proofs.YtncgdoeobblnkaaGreat

/-- A slice of one's own without its last ones. -/
theorem OwnF.front {u0 u : H} {e k : Nat} {s : Sl} {xs : List Value} (h : OwnF u0 u e k s xs) {m : Nat} (hm : m ≤ s.n) : OwnF u0 u e k (s.part 0 m s.c k) (xs.take (m * k)) ∧ (s.part 0 m s.c k).blk = s.blk ∧ (s.part 0 m s.c k).n = m := by
  have ha : (s.part 0 m s.c k).a = s.a := by
    unfold Sl.part
    simp only
    split
    · rfl
    · rw [Nat.zero_mul]; cases s.a <;> simp [Addr.add_zero']
  have hb : (s.part 0 m s.c k).blk = s.blk := by unfold Sl.blk; rw [ha]
  refine ⟨⟨⟨?_, ?_⟩, h.le, fun g hg => h.fresh g (hb ▸ hg)⟩, hb, rfl⟩
  · show _ = (m - 0) * k
    rw [List.length_take, h.own.len, Nat.sub_zero, Nat.min_eq_left (Nat.mul_le_mul_right _ hm)]
  · rcases h.own.is with h0 | ⟨g, cur, e1, e2, e3, e4, e5, e6⟩
    · left
      subst h0
      have : m = 0 := by simpa using hm
      subst this
      simp [Sl.part]
    · right
      refine ⟨g, cur, ha.trans e1, e2, ?_, ?_, ?_, ?_⟩
      · show m - 0 ≤ s.c - 0; omega
      · show s.c - 0 ≤ _; omega
      · show cur.size = (s.c - 0) * k; rw [Nat.sub_zero]; exact e5
      · show cur.toList.take ((m - 0) * k) = _
        rw [Nat.sub_zero, ← e6, List.take_take, Nat.min_eq_left (Nat.mul_le_mul_right _ hm)]

end Go.Proofs.YtncgdoeobblnkaaGreat

/- VcHeapF -/
namespace Go.Proofs.YtncgdoeobblnkaaGreat

section
variable {α : Type} [Inhabited α] (lt : α → α → Bool)

def upF (l : List α) (j : Nat) : List α :=
  if _h : j = 0 then l else if lt (l.getD j default) (l.getD (pa j) default) then upF (swapL l (pa j) j) (pa j) else l
termination_by j
decreasing_by unfold pa; omega

/-- The child that is first. -/
def kidF (n : Nat) (l : List α) (i : Nat) : Nat := if 2 * i + 2 < n ∧ lt (l.getD (2 * i + 2) default) (l.getD (2 * i + 1) default) = true then 2 * i + 2 else 2 * i + 1

def downH (n : Nat) (l : List α) (i : Nat) : List α :=
  if _h : 2 * i + 1 < n then (if lt (l.getD (kidF lt n l i) default) (l.getD i default) then downH n (swapL l i (kidF lt n l i)) (kidF lt n l i) else l) else l
termination_by n - i
decreasing_by unfold kidF; split <;> omega

def pushF (l : List α) (y : α) : List α := upF lt (l ++ [y]) l.length
def popF (l : List α) : List α := (downH lt (l.length - 1) (swapL l 0 (l.length - 1)) 0).dropLast
end

section
variable {α : Type} [Inhabited α] {lt : α → α → Bool}

theorem upF_perm : ∀ (j : Nat) (l : List α), j < l.length → (upF lt l j).Perm l := by
  intro j
  induction j using Nat.strongRecOn with
  | ind j ih =>
    intro l hj
    unfold upF
    split
    · exact .refl _
    · split
      · have hp : pa j < j := by unfold pa; omega
        exact (ih (pa j) hp _ (by rw [swapL_len]; omega)).trans (swapL_perm (by omega) hj)
      · exact .refl _

theorem upF_hp (L : LtOk lt) : ∀ (j : Nat) (l : List α), UpI lt l j → Hp lt (upF lt l j).length (upF lt l j) := by
  intro j
  induction j using Nat.strongRecOn with
  | ind j ih =>
    intro l hu
    unfold upF
    split
    · rename_i h; exact hu.done (.inl h)
    · split
      · rename_i h hl
        exact ih (pa j) (by unfold pa; omega) _ (hu.step L (by omega) hl)
      · rename_i h hl
        exact hu.done (.inr (by simpa using hl))

theorem kidF_ok {n i : Nat} {l : List α} (h : 2 * i + 1 < n) : 0 < kidF lt n l i ∧ kidF lt n l i < n ∧ pa (kidF lt n l i) = i ∧ i < kidF lt n l i := by
  unfold kidF pa
  split <;> omega

theorem kidF_min (L : LtOk lt) {n i : Nat} {l : List α} (_h : 2 * i + 1 < n) : ∀ x, 0 < x → x < n → pa x = i → lt (l.getD x default) (l.getD (kidF lt n l i) default) = false := by
  have irr : ∀ a, lt a a = false := fun a => by
    cases e : lt a a with
    | false => rfl
    | true => have := L.asymm _ _ e; rw [e] at this; cases this
  intro x x0 x1 x2
  have two : x = 2 * i + 1 ∨ x = 2 * i + 2 := by unfold pa at x2; omega
  unfold kidF
  split
  · rename_i hc
    rcases two with rfl | rfl
    · exact L.asymm _ _ hc.2
    · exact irr _
  · rename_i hc
    rcases two with rfl | rfl
    · exact irr _
    · cases e : lt (l.getD (2 * i + 2) default) (l.getD (2 * i + 1) default) with
      | false => rfl
      | true => exact absurd ⟨x1, e⟩ hc

theorem downH_len (n : Nat) : ∀ (m : Nat) (i : Nat) (l : List α), n - i ≤ m → (downH lt n l i).length = l.length := by
  intro m
  induction m with
  | zero =>
    intro i l h
    unfold downH
    rw [dif_neg (by omega)]
  | succ m ih =>
    intro i l h
    unfold downH
    split
    · rename_i hc
      split
      · obtain ⟨_, _, _, hk⟩ := kidF_ok (lt := lt) (l := l) hc
        rw [ih _ _ (by omega), swapL_len]
      · rfl
    · rfl

theorem downH_ok (L : LtOk lt) {n : Nat} : ∀ (m : Nat) (i : Nat) (l : List α), n - i ≤ m → DownI lt n l i → n ≤ l.length → (i < n ∨ i = 0) →
    (downH lt n l i).Perm l ∧ Hp lt n (downH lt n l i) ∧ ∀ k, n ≤ k → (downH lt n l i)[k]? = l[k]? := by
  intro m
  induction m with
  | zero =>
    intro i l h hd hn hi
    unfold downH
    rw [dif_neg (by omega)]
    exact ⟨.refl _, hd.done (fun x x0 x1 x2 => by unfold pa at x2; omega), fun _ _ => rfl⟩
  | succ m ih =>
    intro i l h hd hn hi
    unfold downH
    split
    · rename_i hc
      obtain ⟨k0, k1, k2, k3⟩ := kidF_ok (lt := lt) (l := l) hc
      split
      · rename_i hl
        obtain ⟨h1, h2, h3⟩ := ih (kidF lt n l i) (swapL l i (kidF lt n l i)) (by omega) (hd.step L k0 k1 k2 hl (kidF_min L hc)) (by rw [swapL_len]; exact hn) (.inl k1)
        refine ⟨h1.trans (swapL_perm (by omega) (by omega)), h2, fun k hk => ?_⟩
        rw [h3 k hk, swapL_out (by omega) (by omega)]
      · rename_i hl
        refine ⟨.refl _, hd.done (fun x x0 x1 x2 => ?_), fun _ _ => rfl⟩
        exact L.trans _ _ _ (by simpa using hl) (kidF_min L hc x x0 x1 x2)
    · rename_i hc
      exact ⟨.refl _, hd.done (fun x x0 x1 x2 => by unfold pa at x2; omega), fun _ _ => rfl⟩

theorem push_up {l : List α} {y : α} (hh : Hp lt l.length l) : UpI lt (l ++ [y]) l.length := by
  refine ⟨by simp, fun i i0 i1 i2 => ?_, fun i i0 i1 i2 => ?_⟩
  · simp only [List.length_append, List.length_singleton] at i1
    have hi : i < l.length := by omega
    have g : ∀ k, k < l.length → (l ++ [y]).getD k default = l.getD k default := fun k hk => by
      rw [List.getD_eq_getElem?_getD, List.getElem?_append_left hk, ← List.getD_eq_getElem?_getD]
    rw [g i hi, g _ (by unfold pa; omega)]
    exact hh i i0 hi
  · simp only [List.length_append, List.length_singleton] at i1
    unfold pa at i2
    omega

theorem pushF_ok (L : LtOk lt) {l : List α} {y : α} (hh : Hp lt l.length l) : (pushF lt l y).Perm (l ++ [y]) ∧ Hp lt (pushF lt l y).length (pushF lt l y) :=
  ⟨upF_perm _ _ (by simp), upF_hp L _ _ (push_up hh)⟩

theorem pop_down {l : List α} (hh : Hp lt l.length l) (hne : 0 < l.length) : DownI lt (l.length - 1) (swapL l 0 (l.length - 1)) 0 := by
  refine ⟨by rw [swapL_len]; omega, fun i i0 i1 i2 => ?_, fun i i0 i1 i2 h => by simp at h⟩
  have i2' : pa i ≠ 0 := i2
  rw [swapL_getD (by omega) (by omega) (by omega), swapL_getD (by omega) (by omega) (by unfold pa; omega)]
  rw [if_neg (by omega), if_neg (by omega), if_neg (by unfold pa; omega), if_neg i2']
  exact hh i i0 (by omega)

theorem popF_ok (L : LtOk lt) {l : List α} (hh : Hp lt l.length l) (hne : 0 < l.length) : (l.getD 0 default :: popF lt l).Perm l ∧ Hp lt (popF lt l).length (popF lt l) ∧ (∀ y ∈ popF lt l, lt y (l.getD 0 default) = false) ∧
    downH lt (l.length - 1) (swapL l 0 (l.length - 1)) 0 = popF lt l ++ [l.getD 0 default] := by
  have hd := pop_down hh hne
  obtain ⟨h1, h2, h3⟩ := downH_ok L (l.length - 1) 0 _ (by omega) hd (by rw [swapL_len]; omega) (.inr rfl)
  have hlen := downH_len (lt := lt) (l.length - 1) (l.length - 1) 0 (swapL l 0 (l.length - 1)) (by omega)
  rw [swapL_len] at hlen
  have e : downH lt (l.length - 1) (swapL l 0 (l.length - 1)) 0 = popF lt l ++ [l.getD 0 default] := by
    unfold popF
    generalize hD : downH lt (l.length - 1) (swapL l 0 (l.length - 1)) 0 = D at *
    have hne2 : D ≠ [] := fun e => by rw [e] at hlen; simp at hlen; omega
    have hlast := List.dropLast_concat_getLast hne2
    rw [List.getLast_eq_getElem] at hlast
    have hx : D[D.length - 1]'(by omega) = l.getD 0 default := by
      have h4 := h3 (l.length - 1) (Nat.le_refl _)
      rw [List.getElem?_eq_getElem (by omega), List.getElem?_eq_getElem (by rw [swapL_len]; omega)] at h4
      have h5 : D[l.length - 1]'(by omega) = (swapL l 0 (l.length - 1)).getD (l.length - 1) default := by
        rw [List.getD_eq_getElem?_getD, List.getElem?_eq_getElem (by rw [swapL_len]; omega)]
        exact Option.some.inj h4
      rw [swapL_getD (by omega) (by omega) (by omega), if_pos rfl] at h5
      rw [← h5]
      congr 1
      omega
    rw [hx] at hlast
    exact hlast.symm
  have hp : (l.getD 0 default :: popF lt l).Perm l := by
    have := h1.trans (swapL_perm (by omega) (by omega))
    rw [e] at this
    exact (List.perm_append_singleton _ _).symm.trans this
  have hlp : (popF lt l).length = l.length - 1 := by
    have := hp.length_eq
    simp only [List.length_cons] at this
    omega
  refine ⟨hp, fun i i0 i1 => ?_, fun y hy => ?_, e⟩
  · have h5 := h2 i i0 (by omega)
    rw [e] at h5
    have g : ∀ k, k < (popF lt l).length → (popF lt l ++ [l.getD 0 default]).getD k default = (popF lt l).getD k default := fun k hk => by
      rw [List.getD_eq_getElem?_getD, List.getElem?_append_left hk, ← List.getD_eq_getElem?_getD]
    rw [g i i1, g _ (by unfold pa; omega)] at h5
    exact h5
  · have hyl : y ∈ l := hp.mem_iff.1 (List.mem_cons_of_mem _ hy)
    obtain ⟨i, hi, rfl⟩ := List.getElem_of_mem hyl
    have := hh.root L i hi
    rwa [List.getD_eq_getElem?_getD, List.getElem?_eq_getElem hi] at this

/-! ### the code -/

variable {recv : Value} {St : H → List α → Prop}

theorem spec.heap_upF (I : HeapI recv St lt) {u : H} {l : List α} {j : Int} {K : H → Prop} (hs : St u l) (h0 : 0 ≤ j) (hj : j < l.length) (hK : ∀ u', St u' (upF lt l j.toNat) → K u') : C.heap_up recv j u K := by
  have hsm := I.small hs
  apply vc.heap_up
  refine ⟨fun x v => 0 ≤ x ∧ ∃ l', St v l' ∧ l'.length = l.length ∧ x < l.length ∧ upF lt l' x.toNat = upF lt l j.toNat, fun x _ => x.toNat, ⟨h0, l, hs, rfl, hj, rfl⟩, ?_⟩
  rintro x v ⟨x0, l', hs', hlen, hin, he⟩
  refine ⟨⟨by omega, by omega⟩, by decide, ?_⟩
  by_cases hx : x = 0
  · subst hx
    refine ⟨⟨by decide, by decide⟩, fun _ => hK _ ?_, fun h => absurd (by decide) h⟩
    rw [← he]
    unfold upF
    rw [dif_pos (by rfl)]
    exact hs'
  · have ht : Int.tdiv (x - 1) 2 = (x - 1) / 2 := Int.tdiv_eq_ediv_of_nonneg (by omega)
    have hpa : ((x - 1) / 2).toNat = pa x.toNat := by unfold pa; omega
    rw [ht]
    refine ⟨⟨by omega, by omega⟩, fun h => by omega, fun _ => I.less hs' x0 (by omega) (by omega) (by omega) ?_⟩
    rw [hpa]
    refine ⟨fun hb => hK _ ?_, fun hb => I.swap hs' (by omega) (by omega) x0 (by omega) fun u' hs2 => ⟨⟨by omega, _, hs2, by rw [swapL_len]; exact hlen, by omega, ?_⟩, by dsimp only; omega⟩⟩
    · rw [← he]
      unfold upF
      rw [dif_neg (by omega), if_neg hb]
      exact hs'
    · rw [hpa, ← he]
      conv => rhs; unfold upF
      rw [dif_neg (by omega), if_pos hb]

theorem spec.heap_downH (I : HeapI recv St lt) {u : H} {l : List α} {j n : Int} {K : Bool → H → Prop} (hs : St u l) (h0 : 0 ≤ j) (hn : n ≤ l.length) (hK : ∀ b u', St u' (downH lt n.toNat l j.toNat) → K b u') (hj : j < n ∨ j ≤ 0) (hlen0 : j < l.length) : C.heap_down recv j n u K := by
  have hsm := I.small hs
  apply vc.heap_down
  intro K0 hK0
  refine ⟨fun x v => 0 ≤ x ∧ (x < n ∨ x ≤ 0) ∧ x < l.length ∧ ∃ l', St v l' ∧ l'.length = l.length ∧ downH lt n.toNat l' x.toNat = downH lt n.toNat l j.toNat, fun x _ => (n - x).toNat, ⟨h0, hj, hlen0, l, hs, rfl, rfl⟩, ?_⟩
  rintro x v ⟨x0, hxn, hxl, l', hs', hlen, he⟩
  have done : downH lt n.toNat l' x.toNat = l' → K0 x v := fun h => hK0 _ _ (hK _ _ (by rw [← he, h]; exact hs'))
  refine ⟨⟨by omega, by omega⟩, ⟨by omega, by omega⟩, fun K7 hK7 => ⟨fun h => done ?_, fun h => ⟨fun h2 => by omega, fun _ => hK7 _ ?_⟩⟩⟩
  · unfold downH
    rw [dif_neg (by omega)]
  clear hK7 K7
  intro K9 hK9
  have turn : ∀ c : Int, c.toNat = kidF lt n.toNat l' x.toNat → 0 < c → c < n → x < c → K9 c v := by
    intro c hc c0 c1 hcx
    refine hK9 _ _ (I.less hs' (by omega) (by omega) x0 (by omega) ⟨fun hb => done ?_, fun hb => I.swap hs' x0 (by omega) (by omega) (by omega) fun u' hs2 => ⟨⟨by omega, .inl c1, by omega, _, hs2, by rw [swapL_len]; exact hlen, ?_⟩, by dsimp only; omega⟩⟩)
    · unfold downH
      rw [dif_pos (by omega), ← hc, if_neg hb]
    · rw [← he]
      conv => rhs; unfold downH
      rw [dif_pos (by omega), ← hc, if_pos hb]
  clear hK9
  have e1 : (2 * x + 1).toNat = 2 * x.toNat + 1 := by omega
  have e2 : (2 * x + 1 + 1).toNat = 2 * x.toNat + 2 := by omega
  refine ⟨⟨by omega, by omega⟩, fun h2 => I.less hs' (by omega) (by omega) (by omega) (by omega) ⟨fun hb => turn _ ?_ (by omega) h2 (by omega), fun hb => turn _ ?_ (by omega) (by omega) (by omega)⟩, fun h2 => turn _ ?_ (by omega) (by omega) (by omega)⟩
  · rw [e1, e2] at hb
    unfold kidF
    rw [if_pos ⟨by omega, hb⟩, e2]
  · rw [e1, e2] at hb
    unfold kidF
    rw [if_neg (fun hc => by rw [hc.2] at hb; cases hb), e1]
  · unfold kidF
    rw [if_neg (fun hc => by omega), e1]

theorem spec.heap_PushF (I : HeapI recv St lt) {u : H} {l : List α} {x : Value} {y : α} {K : H → Prop}
    (hpush : ∀ {K : H → Prop}, (∀ u', St u' (l ++ [y]) → K u') → ClI Tryz.prog recv "Push" #[x] [] u K)
    (hK : ∀ u', St u' (pushF lt l y) → K u') : C.heap_Push recv x u K := by
  apply vc.heap_Push
  refine hpush fun u' hs => I.len hs ?_
  have hsm := I.small hs
  simp only [List.length_append, List.length_singleton] at hsm ⊢
  refine ⟨⟨by omega, by omega⟩, spec.heap_upF I hs (by omega) (by simp only [List.length_append, List.length_singleton]; omega) fun u2 h2 => hK u2 ?_⟩
  have e : (((l.length + 1 : Nat) : Int) - 1).toNat = l.length := by omega
  rw [e] at h2
  exact h2

theorem spec.heap_PopF (I : HeapI recv St lt) (L : LtOk lt) {V : α → Value} {u : H} {l : List α} {K : Value → H → Prop} (hs : St u l) (hh : Hp lt l.length l) (hne : 0 < l.length)
    (hpop : ∀ {u' : H} {l' : List α} {x : α} {K : Value → H → Prop}, St u' (l' ++ [x]) → (∀ u'', St u'' l' → K (V x) u'') → ClI Tryz.prog recv "Pop" #[] [.one .val] u' K)
    (hK : ∀ u', St u' (popF lt l) → K (V (l.getD 0 default)) u') : C.heap_Pop recv u K := by
  obtain ⟨_, _, _, he⟩ := popF_ok L hh hne
  apply vc.heap_Pop
  have hsm := I.small hs
  refine I.len hs ⟨⟨by omega, by omega⟩, I.swap hs (by omega) (by omega) (by omega) (by omega) fun u1 hs1 => ?_⟩
  have e1 : (((l.length : Int) - 1).toNat) = l.length - 1 := by omega
  rw [e1, show (0 : Int).toNat = 0 from rfl] at hs1
  refine spec.heap_downH I hs1 (by omega) (by rw [swapL_len]; omega) (fun b u2 hs2 => ?_) (.inr (by omega)) (by rw [swapL_len]; omega)
  rw [e1, show (0 : Int).toNat = 0 from rfl, he] at hs2
  exact hpop hs2 hK

end
end Go.Proofs.YtncgdoeobblnkaaGreat

/- VcWalkP -/
namespace Go.Proofs.YtncgdoeobblnkaaGreat

abbrev Prw := Int × List Int

/-- A part: its region, its rows, its parts. -/
inductive Pt where
  | mk (sh : Int) (lo hi : List Int) (rad : Int) (rows : List Prw) (kids : List Pt)

instance : Inhabited Pt := ⟨.mk 1 [] [] 0 [] []⟩

namespace Pt
def sh : Pt → Int | .mk s _ _ _ _ _ => s
def lo : Pt → List Int | .mk _ l _ _ _ _ => l
def hi : Pt → List Int | .mk _ _ h _ _ _ => h
def rad : Pt → Int | .mk _ _ _ r _ _ => r
def rows : Pt → List Prw | .mk _ _ _ _ r _ => r
def kids : Pt → List Pt | .mk _ _ _ _ _ k => k

mutual
def all : Pt → List Prw
  | .mk _ _ _ _ rows kids => rows ++ allL kids
def allL : List Pt → List Prw
  | [] => []
  | p :: ps => p.all ++ allL ps
end

mutual
def size : Pt → Nat
  | .mk _ _ _ _ _ kids => 1 + sizeL kids
def sizeL : List Pt → Nat
  | [] => 0
  | p :: ps => p.size + sizeL ps
end

/-- Its region, with ids. -/
def rgn (p : Pt) (ids : List Int) : Rgn := ⟨p.sh, ⟨none, 0, 0⟩, ⟨none, 0, 0⟩, p.rad, ⟨none, 0, 0⟩, p.lo, p.hi, ids⟩

theorem all_eq (p : Pt) : p.all = p.rows ++ allL p.kids := by cases p; rfl
theorem size_eq (p : Pt) : p.size = 1 + sizeL p.kids := by cases p; rfl
end Pt

/-- A row of a pair. -/
def rwOf (x : Prw) : Rw := ⟨x.1, ⟨none, 0, 0⟩, x.2⟩
def hitP (q : List Int) (x : Prw) : Hit := (x.1, sqTo x.2 q x.2.length)
theorem hitP_of (q : List Int) (r : Rw) : hitP q r.pr = hitOf q r := rfl

/-- A region holds its part's rows, and its parts' do. -/
inductive PtOk (d : Int) : Pt → Prop where
  | mk {p : Pt} (reg : RegOk (p.rgn []) d) (ins : ∀ x ∈ p.all, Inside (p.rgn []) x.2) (kids : ∀ k ∈ p.kids, PtOk d k) : PtOk d p

theorem PtOk.reg {d : Int} {p : Pt} (h : PtOk d p) : RegOk (p.rgn []) d := by cases h; assumption
theorem PtOk.ins {d : Int} {p : Pt} (h : PtOk d p) : ∀ x ∈ p.all, Inside (p.rgn []) x.2 := by cases h; assumption
theorem PtOk.kids {d : Int} {p : Pt} (h : PtOk d p) : ∀ k ∈ p.kids, PtOk d k := by cases h; assumption

/-! ### the walk -/

abbrev Op1 := Int × Pt
def blt (a b : Op1) : Bool := decide (a.1 < b.1)

theorem bltOk : LtOk blt where
  asymm a b h := by simp [blt] at *; omega
  trans a b c h k := by simp [blt] at *; omega

noncomputable def addW (q : List Int) (l : List Op1) (p : Pt) : List Op1 := pushF blt l (nearR (p.rgn []) q, p)

/-- Where a walk is: the parts that were not looked at, the rows that were seen, what is left of parts that were looked at. -/
structure WS where
  heap : List Op1
  seen : List Prw
  rest : List (Pt × List Prw)

noncomputable def topW (q : List Int) (k : Int) (s : WS) : List Hit := topk k.toNat (s.seen.map (hitP q))

def fullW (q : List Int) (k : Int) (s : WS) (b : Int) : Prop := k ≤ (s.seen.length : Int) ∧ ((topW q k s).getD (k.toNat - 1) default).2 < b

/-- Does it go on? -/
def goW (q : List Int) (k b : Int) (s : WS) : Prop := s.heap ≠ [] ∧ (s.seen.length : Int) < b ∧ ¬ fullW q k s (s.heap.getD 0 default).1

noncomputable def stepW (q : List Int) (b : Int) (s : WS) : WS :=
  ⟨(s.heap.getD 0 default).2.kids.foldl (addW q) (popF blt s.heap), s.seen ++ (s.heap.getD 0 default).2.rows.take (b - s.seen.length).toNat,
    if ((s.heap.getD 0 default).2.rows.length : Int) ≤ b - s.seen.length then s.rest else s.rest ++ [((s.heap.getD 0 default).2, (s.heap.getD 0 default).2.rows.drop (b - s.seen.length).toNat)]⟩

open Classical in
noncomputable def loopW (q : List Int) (k b : Int) : Nat → WS → WS
  | 0, s => s
  | f + 1, s => if goW q k b s then loopW q k b f (stepW q b s) else s

noncomputable def startW (q : List Int) (ps : List Pt) : WS := ⟨ps.foldl (addW q) [], [], []⟩

noncomputable def walkE (q : List Int) (k b : Int) (ps : List Pt) : WS := loopW q k b (Pt.sizeL ps) (startW q ps)

/-- What is left out of a walk: the parts' rests, then the parts that were not looked at. -/
def leftW (s : WS) : List (Pt × List Prw) := s.rest ++ (s.heap.map fun x => (x.2, x.2.all)).filter fun x => !x.2.isEmpty

/-! ### what holds on the way -/

structure WOk (q : List Int) (b : Int) (P : List Prw) (s : WS) : Prop where
  hp : Hp blt s.heap.length s.heap
  near : ∀ x ∈ s.heap, x.1 = nearR (x.2.rgn []) q ∧ PtOk q.length x.2
  perm : (s.seen ++ (s.rest.flatMap (·.2) ++ s.heap.flatMap fun x => x.2.all)).Perm P
  few : (s.seen.length : Int) ≤ b
  cut : s.rest ≠ [] → (s.seen.length : Int) = b
  left : ∀ x ∈ s.rest, PtOk q.length x.1 ∧ x.2 ≠ [] ∧ ∀ y ∈ x.2, y ∈ x.1.all

theorem foldl_add {q : List Int} : ∀ (ps : List Pt) (l : List Op1), Hp blt l.length l → Hp blt (ps.foldl (addW q) l).length (ps.foldl (addW q) l) ∧ (ps.foldl (addW q) l).Perm (l ++ ps.map fun p => (nearR (p.rgn []) q, p)) := by
  intro ps
  induction ps with
  | nil => intro l h; exact ⟨h, by simp⟩
  | cons p ps ih =>
    intro l h
    obtain ⟨h1, h2⟩ := pushF_ok bltOk (y := ((nearR (p.rgn []) q, p) : Op1)) h
    obtain ⟨h3, h4⟩ := ih _ h2
    refine ⟨h3, h4.trans ?_⟩
    rw [List.map_cons]
    refine (h1.append_right _).trans ?_
    rw [List.append_assoc]
    exact .refl _

theorem allL_flat (ps : List Pt) : Pt.allL ps = ps.flatMap fun p => p.all := by
  induction ps with
  | nil => rfl
  | cons p ps ih => rw [List.flatMap_cons, ← ih]; rfl

theorem startW_ok {q : List Int} {b : Int} {ps : List Pt} (hb : 0 ≤ b) (h : ∀ p ∈ ps, PtOk q.length p) : WOk q b (Pt.allL ps) (startW q ps) := by
  have h0 : Hp blt ([] : List Op1).length [] := fun i _ hi => by simp at hi
  obtain ⟨h1, h2⟩ := foldl_add (q := q) ps [] h0
  rw [List.nil_append] at h2
  refine ⟨h1, fun x hx => ?_, ?_, by show ((0 : Nat) : Int) ≤ b; omega, fun e => absurd rfl e, fun x hx => by cases hx⟩
  · obtain ⟨p, hp, rfl⟩ := List.mem_map.1 (h2.mem_iff.1 hx)
    exact ⟨rfl, h p hp⟩
  · show ([] ++ ([] ++ _)).Perm _
    rw [List.nil_append, List.nil_append, allL_flat]
    refine (h2.flatMap_right _).trans (List.Perm.of_eq ?_)
    rw [List.flatMap_map]

theorem getD_mem {α : Type} [Inhabited α] {l : List α} (h : l ≠ []) : l.getD 0 default ∈ l := by
  cases l with
  | nil => exact absurd rfl h
  | cons x l => exact List.mem_cons_self ..

theorem stepW_ok {q : List Int} {k b : Int} {P : List Prw} {s : WS} (h : WOk q b P s) (hg : goW q k b s) : WOk q b P (stepW q b s) := by
  obtain ⟨hne, hlt, _⟩ := hg
  have hl : 0 < s.heap.length := List.length_pos_iff.2 hne
  obtain ⟨p1, p2, p3, _⟩ := popF_ok bltOk h.hp hl
  have hr0 : s.rest = [] := by
    by_cases e : s.rest = []
    · exact e
    · have := h.cut e; omega
  obtain ⟨hx1, hx2⟩ := h.near _ (getD_mem hne)
  unfold stepW
  generalize hx : s.heap.getD 0 default = x at *
  obtain ⟨f1, f2⟩ := foldl_add (q := q) x.2.kids _ p2
  refine ⟨f1, fun y hy => ?_, ?_, ?_, fun e => ?_, fun y hy => ?_⟩
  · rcases List.mem_append.1 (f2.mem_iff.1 hy) with h1 | h1
    · exact h.near y (p1.mem_iff.1 (List.mem_cons_of_mem _ h1))
    · obtain ⟨p, hp, rfl⟩ := List.mem_map.1 h1
      exact ⟨rfl, hx2.kids p hp⟩
  · have hperm := h.perm
    rw [hr0, List.flatMap_nil, List.nil_append] at hperm
    refine List.Perm.trans ?_ hperm
    show ((s.seen ++ x.2.rows.take (b - s.seen.length).toNat) ++ (List.flatMap (fun y : Pt × List Prw => y.2) (if (x.2.rows.length : Int) ≤ b - s.seen.length then s.rest else s.rest ++ [(x.2, x.2.rows.drop (b - s.seen.length).toNat)]) ++ List.flatMap (fun x => x.2.all) (x.2.kids.foldl (addW q) (popF blt s.heap)))).Perm _
    rw [List.append_assoc]
    refine List.Perm.append_left _ ?_
    have hheap : (List.flatMap (fun x => x.2.all) (x.2.kids.foldl (addW q) (popF blt s.heap))).Perm ((popF blt s.heap).flatMap (fun x => x.2.all) ++ Pt.allL x.2.kids) := by
      refine (f2.flatMap_right _).trans ?_
      rw [List.flatMap_append, List.flatMap_map, allL_flat]
    have hold : (s.heap.flatMap fun x => x.2.all).Perm (x.2.all ++ (popF blt s.heap).flatMap fun x => x.2.all) := by
      refine (p1.symm.flatMap_right _).trans ?_
      rw [List.flatMap_cons]
    refine List.Perm.trans ?_ hold.symm
    rw [Pt.all_eq]
    have key : (x.2.rows.take (b - s.seen.length).toNat ++ List.flatMap (·.2) (if (x.2.rows.length : Int) ≤ b - s.seen.length then s.rest else s.rest ++ [(x.2, x.2.rows.drop (b - s.seen.length).toNat)])) = x.2.rows := by
      rw [hr0]
      split
      · rw [List.flatMap_nil, List.append_nil, List.take_of_length_le (by omega)]
      · simp
    rw [← List.append_assoc, key]
    refine (List.Perm.append_left _ hheap).trans ?_
    rw [List.append_assoc]
    exact List.Perm.append_left _ List.perm_append_comm
  · show (((s.seen ++ x.2.rows.take _).length : Nat) : Int) ≤ b
    rw [List.length_append, List.length_take]
    omega
  · show (((s.seen ++ x.2.rows.take _).length : Nat) : Int) = b
    rw [List.length_append, List.length_take]
    by_cases hc : (x.2.rows.length : Int) ≤ b - s.seen.length
    · exact absurd (by show (if _ then s.rest else _) = []; rw [if_pos hc]; exact hr0) e
    · omega
  · change y ∈ (if (x.2.rows.length : Int) ≤ b - s.seen.length then s.rest else s.rest ++ [(x.2, x.2.rows.drop (b - s.seen.length).toNat)]) at hy
    rw [hr0] at hy
    split at hy
    · cases hy
    · rename_i hc
      rw [List.nil_append] at hy
      have := List.mem_singleton.1 hy
      subst this
      refine ⟨hx2, fun e => ?_, fun z hz => ?_⟩
      · have := congrArg List.length e
        rw [List.length_drop, List.length_nil] at this
        omega
      · rw [Pt.all_eq]
        exact List.mem_append_left _ (List.mem_of_mem_drop hz)

theorem sizeL_app (a b : List Pt) : Pt.sizeL (a ++ b) = Pt.sizeL a + Pt.sizeL b := by
  induction a with
  | nil => simp [Pt.sizeL]
  | cons p a ih => simp only [List.cons_append, Pt.sizeL, ih]; omega

theorem sizeL_perm {a b : List Pt} (h : a.Perm b) : Pt.sizeL a = Pt.sizeL b := by
  induction h with
  | nil => rfl
  | cons x _ ih => simp only [Pt.sizeL, ih]
  | swap x y l => simp only [Pt.sizeL]; omega
  | trans _ _ h1 h2 => exact h1.trans h2

theorem step_size {q : List Int} {k b : Int} {P : List Prw} {s : WS} (h : WOk q b P s) (hg : goW q k b s) : Pt.sizeL ((stepW q b s).heap.map (·.2)) + 1 = Pt.sizeL (s.heap.map (·.2)) := by
  have hl : 0 < s.heap.length := List.length_pos_iff.2 hg.1
  obtain ⟨p1, p2, p3, _⟩ := popF_ok bltOk h.hp hl
  obtain ⟨f1, f2⟩ := foldl_add (q := q) (s.heap.getD 0 default).2.kids _ p2
  have e1 : Pt.sizeL ((stepW q b s).heap.map (·.2)) = Pt.sizeL ((popF blt s.heap).map (·.2)) + Pt.sizeL (s.heap.getD 0 default).2.kids := by
    show Pt.sizeL (List.map (fun x => x.2) (List.foldl (addW q) (popF blt s.heap) (s.heap.getD 0 default).2.kids)) = _
    rw [sizeL_perm (f2.map _), List.map_append, sizeL_app, List.map_map]
    congr 2
    exact List.map_id' _
  have e2 : Pt.sizeL (s.heap.map (·.2)) = (s.heap.getD 0 default).2.size + Pt.sizeL ((popF blt s.heap).map (·.2)) := by
    rw [← sizeL_perm (p1.map _), List.map_cons]
    rfl
  rw [e1, e2, Pt.size_eq]
  omega

/-- The walk has ended where it does not go on. -/
theorem loopW_end {q : List Int} {k b : Int} {P : List Prw} : ∀ (f : Nat) (s : WS), WOk q b P s → Pt.sizeL (s.heap.map (·.2)) ≤ f → WOk q b P (loopW q k b f s) ∧ ¬ goW q k b (loopW q k b f s) := by
  intro f
  induction f with
  | zero =>
    intro s h hs
    refine ⟨h, fun hg => ?_⟩
    have hne := hg.1
    cases e : s.heap with
    | nil => exact hne e
    | cons x l =>
      rw [e] at hs
      simp only [List.map_cons, Pt.sizeL] at hs
      have := Pt.size_eq x.2
      omega
  | succ f ih =>
    intro s h hs
    unfold loopW
    split
    · rename_i hg
      have := step_size h hg
      exact ih _ (stepW_ok h hg) (by omega)
    · rename_i hg
      exact ⟨h, hg⟩

theorem walkE_ok {q : List Int} {k b : Int} {ps : List Pt} (hb : 0 ≤ b) (h : ∀ p ∈ ps, PtOk q.length p) : WOk q b (Pt.allL ps) (walkE q k b ps) ∧ ¬ goW q k b (walkE q k b ps) := by
  refine loopW_end _ _ (startW_ok hb h) ?_
  have h0 : Hp blt ([] : List Op1).length [] := fun i _ hi => by simp at hi
  obtain ⟨h1, h2⟩ := foldl_add (q := q) ps [] h0
  rw [List.nil_append] at h2
  show Pt.sizeL ((ps.foldl (addW q) []).map (·.2)) ≤ _
  rw [sizeL_perm (h2.map _), List.map_map]
  exact Nat.le_of_eq (congrArg _ (List.map_id' _))

end Go.Proofs.YtncgdoeobblnkaaGreat

/- VcQue -/
namespace Go.Proofs.YtncgdoeobblnkaaGreat

theorem qLen : methB Tryz.prog 134 "Len" 86 false = true := by kernel_rfl
theorem qLess : methB Tryz.prog 134 "Less" 206 false = true := by kernel_rfl
theorem qSwap : methB Tryz.prog 134 "Swap" 207 false = true := by kernel_rfl
theorem qPush : methB Tryz.prog 134 "Push" 209 true = true := by kernel_rfl
theorem qPop : methB Tryz.prog 134 "Pop" 208 true = true := by kernel_rfl
theorem shQue : shOf Tryz.prog 131 = some (.one .slice) := by kernel_rfl
theorem undQue : Tryz.prog.underlying 134 = some (.pointer 131) := by kernel_rfl
theorem tQue : elemT Tryz.prog 131 = some (136, 3, 24, [.pointer none, .int .u64 0, .int .u64 0]) := by kernel_rfl
theorem build_que (x : Option Addr) (y z : Int) : buildOf Tryz.prog 131 1 #[(0, .agg #[.pointer x, .int .u64 y, .int .u64 z])] = some (136, [.pointer x, .int .u64 y, .int .u64 z]) := by kernel_rfl
theorem qbLen : hasBody Tryz.prog 86 = true := by kernel_rfl
theorem qbLess : hasBody Tryz.prog 206 = true := by kernel_rfl
theorem qbSwap : hasBody Tryz.prog 207 = true := by kernel_rfl
theorem qbPush : hasBody Tryz.prog 209 = true := by kernel_rfl
theorem qbPop : hasBody Tryz.prog 208 = true := by kernel_rfl

/-- A part that was not looked at, with its address. -/
abbrev QE := Addr × Op1
instance : Inhabited QE := ⟨(⟨0, 0, none⟩, default)⟩
def qlt (a b : QE) : Bool := blt a.2 b.2
def encQ (e : QE) : List Value := [.pointer (some e.1), .int .u64 (hiW e.2.1), .int .u64 (loW e.2.1)]
theorem encQ_len (e : QE) : (encQ e).length = 3 := rfl
theorem encQ_one (e : QE) : ∀ v ∈ encQ e, v.oneCell' = true := by simp [encQ, Value.oneCell']

def Qs (u : H) (s : Sl) (l : List QE) : Prop := Seg u s 3 (l.flatMap encQ)
theorem Qs.len {u : H} {s : Sl} {l : List QE} (h : Qs u s l) : s.n = l.length := flat_n encQ_len (by decide) h
theorem OwnF.qs {u0 u : H} {e : Nat} {s : Sl} {l : List QE} (h : OwnF u0 u e 3 s (l.flatMap encQ)) : Qs u s l := h.own.seg
theorem Qs.at {u : H} {s : Sl} {l : List QE} (h : Qs u s l) {x : Int} (h0 : 0 ≤ x) (h1 : x < (s.n : Int)) : ∃ p, s.a = some p ∧ ∃ q : QE, l[x.toNat]? = some q ∧
    u.cell? (p.add (x.toNat * 3)) = some (.pointer (some q.1)) ∧ u.cell? ((p.add (x.toNat * 3)).add 1) = some (.int .u64 (hiW q.2.1)) ∧ u.cell? ((p.add (x.toNat * 3)).add 2) = some (.int .u64 (loW q.2.1)) := by
  have hn := h.len
  have hl : x.toNat < l.length := by omega
  obtain ⟨p, hp, hc⟩ := Seg.elem encQ_len (by decide) h (List.getElem?_eq_getElem hl)
  exact ⟨p, hp, _, List.getElem?_eq_getElem hl, hc 0 _ rfl, hc 1 _ rfl, hc 2 _ rfl⟩

theorem flat_pushQ (l : List QE) (x : QE) : l.flatMap encQ ++ [.pointer (some x.1), .int .u64 (hiW x.2.1), .int .u64 (loW x.2.1)] = (l ++ [x]).flatMap encQ := by simp [encQ]

/-- A queue in block n. -/
structure QueSt (u0 : H) (n : Nat) (u : H) (l : List QE) : Prop where
  ex : ∃ s : Sl, u n = some (.cells #[.slice s.a s.n s.c] 131 (0, 0)) ∧ OwnF u0 u 136 3 s (l.flatMap encQ) ∧ s.blk ≠ some n
  out : u0 n = none
  small : l.length ≤ 10000000

def queV (n : Nat) : Value := .iface 134 (.pointer (some (Addr.mk n 0 none)))

theorem que_val {u : H} {n : Nat} {s : Sl} {name : String} {f : FuncId} (hm : methB Tryz.prog 134 name f false = true) (hn : u n = some (.cells #[.slice s.a s.n s.c] 131 (0, 0))) (w : World) (hw : Sub u w) :
    (method (Tryz.prog.types.size + Made.depth) 134 (.pointer (some (Addr.mk n 0 none))) name).run Tryz.prog w = .ok (f, .slice s.a s.n s.c) w := by
  obtain ⟨i, m, h1, h2, h3, h4⟩ := methB_spec hm
  obtain ⟨k', hk'⟩ := fuelOk
  rw [hk']
  refine run_method_val h1 h2 h3 h4 undQue ?_
  have hc : u.cell? (Addr.mk n 0 none) = some (.slice s.a s.n s.c) := H.cell?_of hn 0
  have hcw := hw.cell hc
  exact loadVar_run shQue (Addr.mk n 0 none) (vs := [.slice s.a s.n s.c]) rfl (run_loadCellsFrom_list _ _ _ _ _ rfl (fun j v hj => by
    cases j with
    | zero => simp at hj; subst hj; exact hcw
    | succ j => simp at hj)) (fun c hc => ⟨_, rfl, hcw⟩)

theorem spec.flat_queue__Less {s : Sl} {l : List QE} {i j : Int} {u : H} {K : Bool → H → Prop} (hs : Qs u s l) (i0 : 0 ≤ i) (i1 : i < l.length) (j0 : 0 ≤ j) (j1 : j < l.length)
    (h : K (qlt (l.getD i.toNat default) (l.getD j.toNat default)) u) : C.flat_queue__Less s i j u K := by
  have hn := hs.len
  apply vc.flat_queue__Less
  obtain ⟨p, hp, x, hx, c0, c1, c2⟩ := hs.at j0 (show j < (s.n : Int) by omega)
  obtain ⟨q, hq, y, hy, d0, d1, d2⟩ := hs.at i0 (show i < (s.n : Int) by omega)
  rw [show l.getD i.toNat default = y by rw [List.getD_eq_getElem?_getD, hy]; rfl, show l.getD j.toNat default = x by rw [List.getD_eq_getElem?_getD, hx]; rfl] at h
  refine ⟨q, hq, ⟨i0, by omega⟩, p, hp, ⟨j0, by omega⟩, _, d1, _, by rw [Addr.add_add']; exact d2, _, c1, _, by rw [Addr.add_add']; exact c2, spec.wide_Cmp (loU _) (loU _) ?_⟩
  rw [wv_hl, wv_hl]
  have key : ∀ z : Int, (z < 0 ↔ y.2.1 < x.2.1) → K (decide (z < 0)) u := fun z hz => by
    have : decide (z < 0) = qlt y x := by unfold qlt blt; simp [hz]
    rw [this]; exact h
  refine key _ ?_
  split
  · omega
  · split <;> omega

theorem spec.flat_queue__Swap {u0 u : H} {s : Sl} {l : List QE} {i j : Int} {K : H → Prop} (ho : OwnF u0 u 136 3 s (l.flatMap encQ)) (i0 : 0 ≤ i) (i1 : i < l.length) (j0 : 0 ≤ j) (j1 : j < l.length)
    (h : ∀ u', OwnF u0 u' 136 3 s ((swapL l i.toNat j.toNat).flatMap encQ) → Else u u' s → K u') : C.flat_queue__Swap s i j u K := by
  have hs := ho.qs
  have hn := hs.len
  apply vc.flat_queue__Swap
  obtain ⟨p, hp, x, hx, c0, c1, c2⟩ := hs.at j0 (show j < (s.n : Int) by omega)
  obtain ⟨q, hq, y, hy, d0, d1, d2⟩ := hs.at i0 (show i < (s.n : Int) by omega)
  refine ⟨p, hp, ⟨j0, by omega⟩, q, hq, ⟨i0, by omega⟩, _, c0, _, c1, _, c2, _, d0, _, d1, _, d2, q, hq, ⟨i0, by omega⟩, ?_⟩
  refine OwnF.store (enc := encQ) encQ_len ho (by decide) (i := i.toNat) (by omega) (y := x) (encQ_one x) hq fun u1 ho1 he1 _ => ⟨p, hp, ⟨j0, by omega⟩, ?_⟩
  refine OwnF.store (enc := encQ) encQ_len ho1 (by decide) (i := j.toNat) (by simp; omega) (y := y) (encQ_one y) hp fun u2 ho2 he2 _ => h u2 ?_ (fun b o hb hne => he2 b o (he1 b o hb hne) hne)
  have hil : i.toNat < l.length := by omega
  have hjl : j.toNat < l.length := by omega
  have ex : l[j.toNat] = x := by rw [List.getElem?_eq_getElem hjl] at hx; exact Option.some.inj hx
  have ey : l[i.toNat] = y := by rw [List.getElem?_eq_getElem hil] at hy; exact Option.some.inj hy
  rw [swapL_eq hil hjl, ex, ey]
  exact ho2

theorem QueSt.set {u0 u u' : H} {n : Nat} {l l' : List QE} {s : Sl} (h : QueSt u0 n u l) (hn : u n = some (.cells #[.slice s.a s.n s.c] 131 (0, 0))) (hs : s.blk ≠ some n)
    (ho : OwnF u0 u' 136 3 s (l'.flatMap encQ)) (he : Else u u' s) (hl : l'.length = l.length) : QueSt u0 n u' l' :=
  ⟨⟨s, he _ _ hn hs, ho, hs⟩, h.out, by rw [hl]; exact h.small⟩

theorem queHeap (u0 : H) (n : Nat) : HeapI (queV n) (QueSt u0 n) qlt where
  len := by
    intro u l K h hK
    obtain ⟨s, hn, ho, _⟩ := h.ex
    refine ⟨_, _, _, _, rfl, fun w hw => que_val qLen hn w hw, bodyOf qbLen, vc.flat_queue__Len s u K ?_⟩
    rw [ho.qs.len]; exact hK
  less := by
    intro u l i j K h i0 i1 j0 j1 hK
    obtain ⟨s, hn, ho, _⟩ := h.ex
    exact ⟨_, _, _, _, rfl, fun w hw => que_val qLess hn w hw, bodyOf qbLess, spec.flat_queue__Less ho.qs i0 i1 j0 j1 hK⟩
  swap := by
    intro u l i j K h i0 i1 j0 j1 hK
    obtain ⟨s, hn, ho, hne⟩ := h.ex
    exact ⟨_, _, _, _, rfl, fun w hw => que_val qSwap hn w hw, bodyOf qbSwap, spec.flat_queue__Swap ho i0 i1 j0 j1 fun u' ho' he => hK u' (h.set hn hne ho' he (swapL_len _ _ _))⟩
  small := fun h => by have := h.small; omega

theorem queLt : LtOk qlt where
  asymm := fun _ _ h => bltOk.asymm _ _ h
  trans := fun _ _ _ h k => bltOk.trans _ _ _ h k

theorem assertQ' (h : QE) (w : World) : (Instr.typeAssert (.iface 136 (.agg #[.pointer (some h.1), .int .u64 (hiW h.2.1), .int .u64 (loW h.2.1)])) 20 136 false).run Tryz.prog w =
    .ok (.agg #[.pointer (some h.1), .int .u64 (hiW h.2.1), .int .u64 (loW h.2.1)]) w := by kernel_rfl

/-- A hit as an interface's value. -/
def queI (h : QE) : Value := .iface 136 (.agg #[.pointer (some h.1), .int .u64 (hiW h.2.1), .int .u64 (loW h.2.1)])

theorem sem_assertQ {h : QE} {u : H} {K : Option Addr → Int → Int → H → Prop} (hK : K (some h.1) (hiW h.2.1) (loW h.2.1) u) : SemT Tryz.prog (Instr.typeAssert (queI h) 20 136 false) [.agg [.ptr, .int .u64, .int .u64]] u K :=
  SemT.pure [.pointer (some h.1), .int .u64 (hiW h.2.1), .int .u64 (loW h.2.1)] (fun w _ => assertQ' h w) (.cons (t := .ptr) (some h.1) (.cons (t := .int .u64) _ (.cons (t := .int .u64) _ .nil))) hK

theorem que_push {u0 u : H} {n : Nat} {l : List QE} {x : QE} {K : H → Prop} (h : QueSt u0 n u l) (hl : l.length < 10000000) (hK : ∀ u', QueSt u0 n u' (l ++ [x]) → K u') :
    ClI Tryz.prog (queV n) "Push" #[queI x] [] u K := by
  obtain ⟨s, hn, ho, hne⟩ := h.ex
  obtain ⟨i, m, h1, h2, h3, h4⟩ := methB_spec qPush
  obtain ⟨k', hk'⟩ := fuelOk
  refine ⟨_, _, _, _, rfl, fun w _ => by rw [hk']; exact run_method_ptr h1 h2 h3 h4 undQue, bodyOf qbPush, ?_⟩
  refine vc.flat_queue__Push (some (Addr.mk n 0 none)) _ u K ?_
  refine ⟨_, rfl, s, H.cell?_of hn 0, sem_assertQ ⟨H.le.refl u, ?_⟩⟩
  have hp := sem_push (P := Tryz.prog) (K := fun s8 u9 => ∃ r10 : Addr, some (Addr.mk n 0 none) = some r10 ∧ H.St u9 r10 [.slice s8.a s8.n s8.c] K) tQue (build_que (some x.1) (hiW x.2.1) (loW x.2.1)) (by decide) rfl (by simp [Value.oneCell']) ho (by have := ho.qs.len; omega) (by have := ho.qs.len; omega) fun s' u' ho' hn' he hblk _ => ⟨_, rfl, ?_⟩
  · exact hp
  · have hn2 := he _ _ hn hne
    have hne' : s'.blk ≠ some n := fun e => by
      rcases hblk n e with h | h
      · exact hne h
      · rw [hn] at h; cases h
    refine ⟨_, _, hn2, rfl, by simp, by simp [Value.oneCell'], hK _ ⟨⟨s', H.ins_same _ _ _, ⟨?_, ?_, ho'.fresh⟩, hne'⟩, h.out, by simp; omega⟩⟩
    · rw [flat_pushQ] at ho'
      exact ho'.own.le fun b o hb hub => by rw [H.ins_other _ _ (fun e => hne' (by rw [hb, e]))]; exact hub
    · intro b o hb
      rw [H.ins_other _ _ (fun e => by rw [e, h.out] at hb; cases hb)]
      exact ho'.le b o hb

theorem que_pop {u0 u : H} {n : Nat} {l : List QE} {K : Value → H → Prop} (h : QueSt u0 n u l) (hl : 0 < l.length) (hK : ∀ u', QueSt u0 n u' l.dropLast → K (queI (l.getD (l.length - 1) default)) u') :
    ClI Tryz.prog (queV n) "Pop" #[] [.one .val] u K := by
  obtain ⟨s, hn, ho, hne⟩ := h.ex
  obtain ⟨i, m, h1, h2, h3, h4⟩ := methB_spec qPop
  obtain ⟨k', hk'⟩ := fuelOk
  refine ⟨_, _, _, _, rfl, fun w _ => by rw [hk']; exact run_method_ptr h1 h2 h3 h4 undQue, bodyOf qbPop, ?_⟩
  refine vc.flat_queue__Pop (some (Addr.mk n 0 none)) u K ?_
  have hsn := ho.qs.len
  have hc : u.cell? (Addr.mk n 0 none) = some (.slice s.a s.n s.c) := H.cell?_of hn 0
  have hsm := h.small
  obtain ⟨p, hp, x, hx, c0, c1, c2⟩ := ho.qs.at (x := (s.n : Int) - 1) (by omega) (by omega)
  have hxl : l.getD (l.length - 1) default = x := by
    rw [show ((s.n : Int) - 1).toNat = l.length - 1 by omega] at hx
    rw [List.getD_eq_getElem?_getD, hx]; rfl
  intro K0 hK0
  refine ⟨_, rfl, _, rfl, s, hc, s, hc, ⟨by omega, by omega⟩, p, hp, ⟨by omega, by omega⟩, _, c0, _, c1, _, c2, fun m hm => ⟨H.le_ins _ hm, ?_⟩⟩
  have hmn : m ≠ n := fun e => by rw [e, hn] at hm; cases hm
  refine ⟨_, _, H.ins_same _ _ _, rfl, by simp, by simp [Value.oneCell'], hK0 _ _ ⟨_, rfl, _, rfl, s, ?_, s, ?_, ⟨by omega, by omega⟩, ?_⟩⟩
  · simp only [H.cell?, H.ins_other _ _ (Ne.symm hmn)]; simpa [H.cell?] using hc
  · simp only [H.cell?, H.ins_other _ _ (Ne.symm hmn)]; simpa [H.cell?] using hc
  have hcap : s.n ≤ s.c := (Seg.cap ho.own.seg)
  obtain ⟨hf, hfb, hfn⟩ := ho.front (m := s.n - 1) (by omega)
  refine sem_slice (P := Tryz.prog) tQue (l := 0) (h := s.n - 1) (m := s.c) (.inl ⟨rfl, rfl⟩) (.inr ?_) (.inl ⟨rfl, rfl⟩) (by omega) (by omega) (Nat.le_refl _) hcap ⟨_, rfl, ?_⟩
  · rw [show ((s.n : Int) - 1) = ((s.n - 1 : Nat) : Int) by omega]
  refine ⟨_, _, by simp only []; rw [H.ins_other _ _ (Ne.symm hmn), H.ins_other _ _ (Ne.symm hmn)]; exact hn, rfl, by simp, by simp [Value.oneCell'], ?_⟩
  have hcm : ∀ (j : Nat) v, ([.pointer (some x.1), .int .u64 (hiW x.2.1), .int .u64 (loW x.2.1)] : List Value)[j]? = some v → H.cell? ((((u.ins m (.cells #[.pointer none, .int .u64 0, .int .u64 0] 136 (0, 0))).ins m (.cells (wr #[.pointer none, .int .u64 0, .int .u64 0] 0 [.pointer (some x.1), .int .u64 (hiW x.2.1), .int .u64 (loW x.2.1)]) 136 (0, 0))).ins n
      (.cells (wr #[.slice s.a s.n s.c] 0 [.slice (s.part 0 (s.n - 1) s.c 3).a (s.part 0 (s.n - 1) s.c 3).n (s.part 0 (s.n - 1) s.c 3).c]) 131 (0, 0)))) ((Addr.mk m 0 none).add j) = some v := by
    intro j v hj
    simp only [H.cell?, Addr.add_lit, Nat.zero_add, H.ins_other _ _ hmn, H.ins_same]
    rcases j with _ | _ | _ | j
    · simpa [wr] using hj
    · simpa [wr] using hj
    · simpa [wr] using hj
    · simp at hj
  have d0 := hcm 0 _ rfl
  have d1 := hcm 1 _ rfl
  have d2 := hcm 2 _ rfl
  rw [Addr.add_zero'] at d0
  refine ⟨_, d0, _, d1, _, d2, ?_⟩
  have e : queI x = queI (l.getD (l.length - 1) default) := by rw [hxl]
  show K (queI x) _
  rw [e]
  have hxs : (l.flatMap encQ).take ((s.n - 1) * 3) = l.dropLast.flatMap encQ := by
    rw [flat_take encQ_len, hsn, List.dropLast_eq_take]
  rw [hxs] at hf
  have hbn : (s.part 0 (s.n - 1) s.c 3).blk ≠ some n := by rw [hfb]; exact hne
  refine hK _ ⟨⟨_, H.ins_same _ _ _, ⟨?_, ?_, hf.fresh⟩, hbn⟩, h.out, by simp; omega⟩
  · refine hf.own.le fun b o hb hub => ?_
    rw [H.ins_other _ _ (fun e => hbn (by rw [hb, e])), H.ins_other _ _ (fun e => by rw [e, hm] at hub; cases hub), H.ins_other _ _ (fun e => by rw [e, hm] at hub; cases hub)]
    exact hub
  · intro b o hb
    have hbu := hf.le b o hb
    rw [H.ins_other _ _ (fun e => by rw [e, h.out] at hb; cases hb), H.ins_other _ _ (fun e => by rw [e, hm] at hbu; cases hbu), H.ins_other _ _ (fun e => by rw [e, hm] at hbu; cases hbu)]
    exact hbu

end Go.Proofs.YtncgdoeobblnkaaGreat

/- VcVec -/
namespace Go.Proofs.YtncgdoeobblnkaaGreat

def p2 (k : Nat) : Int := ((2 ^ k : Nat) : Int)
theorem p2_pos (k : Nat) : 1 ≤ p2 k := Int.natCast_pos.2 (Nat.pow_pos (by decide))
theorem p2_succ (k : Nat) : p2 (k + 1) = 2 * p2 k := by
  show ((2 ^ (k + 1) : Nat) : Int) = 2 * ((2 ^ k : Nat) : Int)
  rw [Nat.pow_succ, Int.natCast_mul]
  exact Int.mul_comm _ _
theorem p2_le {k : Nat} (h : k ≤ 63) : p2 k ≤ 9223372036854775808 := by
  have h1 : (2 ^ k : Nat) ≤ 2 ^ 63 := Nat.pow_le_pow_right (by decide) h
  have h2 : p2 k ≤ ((2 ^ 63 : Nat) : Int) := Int.ofNat_le.2 h1
  have h3 : ((2 ^ 63 : Nat) : Int) = 9223372036854775808 := by decide
  omega

theorem spec.wide_Sqrt {a b : Int} {u : H} {K : Int → H → Prop} (ha : U64 a) (hb : U64 b) (h : K (rt (wv a b)) u) : C.wide_Sqrt a b u K := by
  apply vc.wide_Sqrt
  have hw0 : 0 ≤ wv a b := by unfold wv; obtain ⟨_, _⟩ := ha; obtain ⟨_, _⟩ := hb; omega
  have hw1 : wv a b < 340282366920938463463374607431768211456 := by unfold wv; obtain ⟨_, _⟩ := ha; obtain ⟨_, _⟩ := hb; omega
  refine ⟨fun r x v => v = u ∧ ∃ (k : Nat) (c : Int), k ≤ 63 ∧ x = p2 k ∧ 0 ≤ c ∧ r = c * p2 (k + 1) ∧ r + p2 (k + 1) ≤ 18446744073709551616 ∧ r * r ≤ wv a b ∧ wv a b < (r + p2 (k + 1)) * (r + p2 (k + 1)), fun _ x _ => x.toNat,
    ⟨rfl, 63, 0, by omega, by decide, by omega, by simp, by decide, by simpa using hw0, ?_⟩, ?_⟩
  · have e : p2 (63 + 1) = 18446744073709551616 := by decide
    rw [e]
    omega
  rintro r x v ⟨rfl, k, c, hk, rfl, hc, hr, hr64, h1, h2⟩
  have hp := p2_pos k
  have hp' := p2_succ k
  have hpl := p2_le hk
  have hr0 : 0 ≤ r := by rw [hr]; exact Int.mul_nonneg hc (by omega)
  have hor : bits .or .u64 r (p2 k) = r + p2 k := by
    have e2 : (2 : Int) ^ (k + 1) = p2 (k + 1) := by simp [p2]
    have e64 : (2 : Int) ^ 64 = 18446744073709551616 := by decide
    refine bits_join .u64 64 (by decide) (fun n h0 h1 => wraps_u64 n h0 h1) (k + 1) r (p2 k) hr0 ?_ (by rw [e64]; omega) (by omega) (by rw [e2]; omega) (by rw [e64]; omega)
    rw [e2, hr]
    exact Int.mul_emod_left _ _
  rw [hor]
  have htU : U64 (r + p2 k) := ⟨by omega, by omega⟩
  refine spec.wide_Mul htU htU fun x y hx hy hxy => ⟨H.le.refl _, spec.wide_Cmp hy hb ?_⟩
  rw [hxy]
  have hfd : k ≠ 0 → Int.fdiv (p2 k) (2 ^ 1) = p2 (k - 1) := fun hk0 => by
    obtain ⟨m, rfl⟩ : ∃ m, k = m + 1 := ⟨k - 1, by omega⟩
    rw [p2_succ, Int.fdiv_eq_ediv_of_nonneg _ (by decide)]
    simp
  have hk1 : p2 k = 1 → k = 0 := fun e => by
    by_cases hk0 : k = 0
    · exact hk0
    · exfalso
      obtain ⟨m, rfl⟩ : ∃ m, k = m + 1 := ⟨k - 1, by omega⟩
      rw [p2_succ] at e
      have := p2_pos m
      omega
  have e0 : p2 0 = 1 := by decide
  have step : ∀ (r' : Int), 0 ≤ r' → r' * r' ≤ wv a b → wv a b < (r' + p2 k) * (r' + p2 k) → (∃ c', 0 ≤ c' ∧ r' = c' * p2 k) → r' + p2 k ≤ 18446744073709551616 →
      ((p2 k = 1) → K r' v) ∧ ((¬ (p2 k = 1)) → ((0 : Int) ≤ 1) ∧ ((v = v ∧ ∃ (k' : Nat) (c : Int), k' ≤ 63 ∧ Int.fdiv (p2 k) (2 ^ 1) = p2 k' ∧ 0 ≤ c ∧ r' = c * p2 (k' + 1) ∧ r' + p2 (k' + 1) ≤ 18446744073709551616 ∧ r' * r' ≤ wv a b ∧ wv a b < (r' + p2 (k' + 1)) * (r' + p2 (k' + 1))) ∧ ((Int.fdiv (p2 k) (2 ^ 1)).toNat < (p2 k).toNat))) := by
    intro r' r0 r1 r2 ⟨c', hc', hrc⟩ r3
    refine ⟨fun e => ?_, fun hne => ?_⟩
    · rw [e] at r2
      rw [rt_eq r0 r1 r2]
      exact h
    · have hk0 : k ≠ 0 := fun e => hne (by rw [e]; exact e0)
      have hkk : k - 1 + 1 = k := by omega
      have hp3 := p2_pos (k - 1)
      have hp4 := p2_succ (k - 1)
      rw [hkk] at hp4
      refine ⟨by decide, ⟨rfl, k - 1, c', by omega, hfd hk0, hc', by rw [hkk]; exact hrc, by rw [hkk]; exact r3, r1, by rw [hkk]; exact r2⟩, ?_⟩
      rw [hfd hk0]
      omega
  by_cases hle : (r + p2 k) * (r + p2 k) ≤ wv a b
  · have s := step (r + p2 k) (by omega) hle (by rw [show r + p2 k + p2 k = r + p2 (k + 1) by omega]; exact h2) ⟨2 * c + 1, by omega, by rw [hr, hp']; grind⟩ (by omega)
    refine ⟨fun _ => s, fun hx => absurd ?_ hx⟩
    split
    · omega
    · rw [if_neg (by omega)]; omega
  · have s := step r hr0 h1 (by omega) ⟨2 * c, by omega, by rw [hr, hp']; grind⟩ (by omega)
    refine ⟨fun hx => absurd hx ?_, fun _ => s⟩
    rw [if_neg (by omega), if_pos (by omega)]
    omega

theorem vcheck_reg {l : List Int} {d : Int} (hv : vok l) (hl : (l.length : Int) = d) (hd : 1 ≤ d ∧ d ≤ 64) : vcheck l d = 0 := by
  rw [← hl]
  exact ok_vcheck hv (by omega)

/-- A region that may be, without ids. -/
theorem spec.vec_CheckRegion {r : Rgn} {d : Int} {t : Sl} {u : H} {K : Int → H → Prop} (h1 : Ints u r.ls r.lo) (h2 : Ints u r.hs r.hi) (hr : RegOk r d) (ht : t.n = 0) (h : K 0 u) : C.vec_CheckRegion r.sh r.ls r.hs (hiW r.rad) (loW r.rad) t d u K := by
  refine ClT.forget (ss := [.one (.int .i64)]) ?_
  have n1 := h1.len
  have n2 := h2.len
  have hd := hr.dim
  have fin : ∀ {v : H}, u.le v → u.le v ∧ K 0 u := fun hv => ⟨hv, h⟩
  apply vc.vec_CheckRegion
  refine spec.vec_dim ?_
  rw [decide_eq_true hd]
  refine ⟨fun hx => absurd rfl hx, fun _ => ⟨fun _ _ x6 v => v = u ∧ 0 ≤ x6, fun _ _ _ _ => 0, ⟨rfl, by omega⟩, fun x4 x5 x6 v hv => ?_⟩⟩
  obtain ⟨rfl, hx6⟩ := hv
  refine ⟨fun hx => absurd hx (by omega), fun _ => ?_⟩
  intro K10 h10 K33 h33
  rcases hr.shape with ⟨e, e1, e2, e3⟩ | ⟨e, e0, v1, v2, l1, l2, hle⟩ | ⟨e, e2, v1, l1, hrad⟩
  · have z1 : r.lo.length = 0 := by rw [e1]; rfl
    have z2 : r.hi.length = 0 := by rw [e2]; rfl
    refine ⟨fun _ => ⟨⟨by omega, by omega⟩, fun _ => h33 _ _ ⟨fun _ => fin (H.le.refl _), fun hf => absurd ⟨by rw [e3]; rfl, by rw [e3]; rfl⟩ (of_decide_eq_false hf)⟩, fun hn => absurd (by rw [n1, n2, e1, e2]; rfl) hn⟩, fun hn => absurd e hn⟩
  · refine ⟨fun hx => absurd hx (by omega), fun _ => h33 _ _ ⟨fun hx => (by cases hx), fun _ => ?_⟩⟩
    intro K36 h36
    refine ⟨fun hx => absurd hx (by omega), fun _ => h36 _ _ ⟨fun hx => (by cases hx), fun _ => ⟨fun hx => absurd e hx, fun _ => ⟨fun hx => absurd ⟨by rw [e0]; rfl, by rw [e0]; rfl⟩ hx, fun _ => h10 _ _ ?_⟩⟩⟩⟩
    refine sem_build (build_two _ _) fun g hg => ?_
    generalize hu' : v.ins g _ = u'
    have hle' : v.le u' := by subst hu'; exact H.le_ins _ hg
    have c : ∀ j w, (#[Value.slice r.ls.a r.ls.n r.ls.c, Value.slice r.hs.a r.hs.n r.hs.c] : Array Value)[j]? = some w → u'.cell? ⟨g, j, none⟩ = some w := by
      intro j w hw
      subst hu'
      exact (H.cell?_of (H.ins_same _ _ _) j).trans hw
    clear hu' hg
    refine ⟨fun _ i w => w = u' ∧ 0 ≤ i ∧ i ≤ 2, fun _ i _ => (2 - i).toNat, ⟨rfl, by omega, by omega⟩, ?_⟩
    rintro _ i w ⟨rfl, i0, i1⟩
    refine ⟨fun hi => ⟨_, rfl, ⟨i0, hi⟩, ?_⟩, fun hi => ?_⟩
    · have hi : i < 2 := hi
      have hc : i = 0 ∨ i = 1 := by omega
      rcases hc with rfl | rfl
      · refine ⟨r.ls, c 0 _ rfl, spec.vec_Check (h1.mono hle') ⟨fun hne => absurd (vcheck_reg v1 l1 hd) hne, fun _ => ⟨⟨by omega, by omega⟩, ⟨rfl, by omega, by omega⟩, by dsimp only; omega⟩⟩⟩
      · refine ⟨r.hs, c 1 _ rfl, spec.vec_Check (h2.mono hle') ⟨fun hne => absurd (vcheck_reg v2 l2 hd) hne, fun _ => ⟨⟨by omega, by omega⟩, ⟨rfl, by omega, by omega⟩, by dsimp only; omega⟩⟩⟩
    · refine ⟨fun _ i w' => w' = w ∧ 0 ≤ i, fun _ i _ => ((r.ls.n : Int) - i).toNat, ⟨rfl, by omega⟩, ?_⟩
      rintro _ i w' ⟨rfl, i0⟩
      refine ⟨fun hi => ?_, fun _ => ⟨hle', h⟩⟩
      obtain ⟨p1, hp1, c1⟩ := (h1.mono hle').at i0 hi
      obtain ⟨p2, hp2, c2⟩ := (h2.mono hle').at i0 (show i < (r.hs.n : Int) by omega)
      have := hle i.toNat (by omega)
      exact ⟨p1, hp1, ⟨i0, hi⟩, _, c1, p2, hp2, ⟨i0, by omega⟩, _, c2, fun hx => by omega, fun _ => ⟨⟨by omega, by omega⟩, ⟨rfl, by omega⟩, by dsimp only; omega⟩⟩
  · refine ⟨fun hx => absurd hx (by omega), fun _ => h33 _ _ ⟨fun hx => (by cases hx), fun _ => ?_⟩⟩
    intro K36 h36
    refine ⟨fun _ => h36 _ _ ⟨fun _ => spec.vec_Check h1 ?_, fun hf => ?_⟩, fun hx => absurd e hx⟩
    · rw [vcheck_reg v1 l1 hd]
      exact fin (H.le.refl _)
    · exact absurd (by rw [n2, e2]; rfl) (of_decide_eq_false hf)

/-- A region and a vector that may be. -/
theorem spec.vec_both {r : Rgn} {t s : Sl} {q : List Int} {u : H} {K : Int → H → Prop} (h1 : Ints u r.ls r.lo) (h2 : Ints u r.hs r.hi) (hr : RegOk r q.length) (ht : t.n = 0) (hs : Ints u s q) (hq : vok q) (h : K 0 u) : C.vec_both r.sh r.ls r.hs (hiW r.rad) (loW r.rad) t s u K := by
  have hn := hs.len
  apply vc.vec_both
  rw [hn]
  refine spec.vec_CheckRegion h1 h2 hr ht ⟨fun hx => absurd rfl hx, fun _ => spec.vec_Check hs ?_⟩
  rw [vcheck_reg hq rfl hr.dim]
  exact h

/-- How near a region may be: the program's. -/
theorem spec.vec_Bound {r : Rgn} {t s : Sl} {q : List Int} {u : H} {K : Int → Int → Int → H → Prop} (h1 : Ints u r.ls r.lo) (h2 : Ints u r.hs r.hi) (hr : RegOk r q.length) (ht : t.n = 0) (hs : Ints u s q) (hq : vok q)
    (h : K (hiW (nearR r q)) (loW (nearR r q)) 0 u) : C.vec_Bound r.sh r.ls r.hs (hiW r.rad) (loW r.rad) t s u K := by
  have n1 := h1.len
  have n2 := h2.len
  have nq := hs.len
  have hd := hr.dim
  have z : U64 0 := ⟨by omega, by omega⟩
  unfold nearR at h
  apply vc.vec_Bound
  refine spec.vec_both h1 h2 hr ht hs hq ⟨fun hx => absurd rfl hx, fun _ => ?_⟩
  intro K2 hK2
  rcases hr.shape with ⟨e, _⟩ | ⟨e, _, v1, v2, l1, l2, hle⟩ | ⟨e, e2, v1, l1, hrad⟩
  · rw [if_neg (by omega), if_neg (by omega)] at h
    exact ⟨fun h => by omega, fun _ => ⟨fun h => by omega, fun _ => hK2 _ _ _ h⟩⟩
  · rw [if_pos e] at h
    refine ⟨fun _ => ?_, fun hne => absurd e hne⟩
    refine ⟨fun i x y w => w = u ∧ 0 ≤ i ∧ i ≤ s.n ∧ U64 x ∧ U64 y ∧ wv x y = boxTo r.lo r.hi q i.toNat, fun i _ _ _ => ((s.n : Int) - i).toNat, ⟨rfl, by omega, by omega, z, z, rfl⟩, ?_⟩
    rintro i x y w ⟨rfl, i0, i1, hx, hy, hw⟩
    refine ⟨fun hi => ?_, fun hi => ?_⟩
    · obtain ⟨p, hp, c0⟩ := hs.at i0 hi
      obtain ⟨p1, hp1, c1⟩ := h1.at i0 (show i < (r.ls.n : Int) by omega)
      obtain ⟨p2, hp2, c2⟩ := h2.at i0 (show i < (r.hs.n : Int) by omega)
      have k0 := hq.2 i.toNat (by omega)
      have k1 := v1.2 i.toNat (by omega)
      have k2 := v2.2 i.toNat (by omega)
      have hb := boxTo_le v1 v2 hq (by omega) (by omega) i.toNat (by omega)
      have h64 := hq.1
      have hlo := hle i.toNat (by omega)
      have eb : boxTo r.lo r.hi q (i + 1).toNat = boxTo r.lo r.hi q i.toNat + (if q.getD i.toNat 0 < r.lo.getD i.toNat 0 then sqd (r.lo.getD i.toNat 0) (q.getD i.toNat 0) else 0) + (if r.hi.getD i.toNat 0 < q.getD i.toNat 0 then sqd (q.getD i.toNat 0) (r.hi.getD i.toNat 0) else 0) := by
        rw [show (i + 1).toNat = i.toNat + 1 by omega]
        rfl
      have hbb : boxTo r.lo r.hi q i.toNat ≤ 64 * 36893488113059364872 := by
        have := Int.mul_le_mul_of_nonneg_right (show (i.toNat : Int) ≤ 64 by omega) (show (0 : Int) ≤ 36893488113059364872 by omega)
        omega
      refine ⟨p, hp, ⟨i0, hi⟩, _, c0, p1, hp1, ⟨i0, by omega⟩, _, c1, p2, hp2, ⟨i0, by omega⟩, _, c2, ?_⟩
      generalize q.getD i.toNat 0 = a at *
      generalize r.lo.getD i.toNat 0 = b at *
      generalize r.hi.getD i.toNat 0 = c at *
      have hclamp : coordOk (if c < (if b > a then b else a) then c else (if b > a then b else a)) := by
        unfold coordOk at *
        split <;> split <;> omega
      refine spec.vec_plus hx hy k0 hclamp (by omega) fun x' y' hx' hy' hw' => ⟨⟨by omega, by omega⟩, ⟨rfl, by omega, by omega, hx', hy', ?_⟩, by dsimp only; omega⟩
      rw [hw', hw, eb]
      unfold sqd
      by_cases g1 : b > a
      · rw [if_pos g1, if_pos (show a < b from g1), if_neg (show ¬ c < b by omega), if_neg (show ¬ c < a by omega)]
        have : (a - b) * (a - b) = (b - a) * (b - a) := by grind
        omega
      · rw [if_neg g1, if_neg (show ¬ a < b by omega)]
        by_cases g2 : c < a
        · rw [if_pos g2, if_pos g2]; omega
        · rw [if_neg g2, if_neg g2]
          have : (a - a) * (a - a) = 0 := by simp
          omega
    · have : i.toNat = q.length := by omega
      rw [this] at hw
      obtain ⟨g1, g2⟩ := wv_U hx hy
      rw [hw] at g1 g2
      rw [g1, g2]
      exact hK2 _ _ _ h
  · rw [if_neg (by omega), if_pos e] at h
    refine ⟨fun h => by omega, fun _ => ⟨fun _ => ?_, fun hne => absurd e hne⟩⟩
    refine spec.vec_far h1 hs v1 hq (by omega) fun x y hx hy hw => ⟨H.le.refl _, ?_⟩
    have hdk := sqTo_ok v1 hq (show r.lo.length = q.length by omega)
    refine spec.wide_Sqrt hx hy ⟨H.le.refl _, spec.wide_Sqrt (hiU hrad) (loU _) ?_⟩
    rw [wv_hl, hw]
    have s0 := rt_spec hdk.1
    have s1 := rt_lt hdk
    have t0 := rt_spec hrad.1
    have t1 := rt_lt hrad
    unfold ballTo at h
    generalize hss : rt (sqTo r.lo q r.lo.length) = S at *
    generalize htt : rt r.rad = tt at *
    intro K28 h28
    have fin : ∀ z : Int, 0 ≤ z → z < 18446744073709551616 → K (hiW (z * z)) (loW (z * z)) 0 u → C.wide_Mul z z u fun (x31 : Int) (x32 : Int) (u33 : H) => K2 x31 x32 u33 := fun z z0 z1 hz => spec.wide_Mul ⟨z0, z1⟩ ⟨z0, z1⟩ fun x y hx hy hxy => by
      obtain ⟨g1, g2⟩ := wv_U hx hy
      rw [hxy] at g1 g2
      rw [g1, g2]
      exact hK2 _ _ _ hz
    have go : ∀ T : Int, 0 ≤ T → (K (hiW (if T < S then (S - T) * (S - T) else 0)) (loW (if T < S then (S - T) * (S - T) else 0)) 0 u) → K28 T u := fun T hT hKT => by
      refine h28 _ _ ⟨fun hlt => ?_, fun hge => ?_⟩
      · rw [if_pos hlt] at hKT
        have e1 : IntKind.wrap .u64 (S - T) = S - T := IntWalk.u64_in _ (by omega)
        rw [e1]
        exact fin _ (by omega) (by omega) hKT
      · rw [if_neg hge] at hKT
        exact hK2 _ _ _ hKT
    refine ⟨fun hlt => ?_, fun hge => ⟨H.le.refl _, ?_⟩⟩
    · refine spec.wide_Mul ⟨t0.1, by omega⟩ ⟨t0.1, by omega⟩ fun x' y' hx' hy' hxy => ⟨H.le.refl _, ?_⟩
      obtain ⟨g1, g2⟩ := wv_U hx' hy'
      rw [hxy] at g1 g2
      refine ⟨fun hne => ?_, fun he => ?_⟩
      · have hne' : ¬ tt * tt = r.rad := fun ee => hne (by rw [g1, g2, ee]; exact ⟨rfl, rfl⟩)
        rw [if_neg hne'] at h
        have e1 : IntKind.wrap .u64 (tt + 1) = tt + 1 := IntWalk.u64_in _ (by omega)
        rw [e1]
        exact go _ (by omega) h
      · have he' : tt * tt = r.rad := hl_inj (by rw [← g1]; exact he.1) (by rw [← g2]; exact he.2)
        rw [if_pos he'] at h
        exact go _ t0.1 h
    · refine go _ t0.1 ?_
      rw [if_neg hge]
      rw [if_neg (by split <;> omega)] at h
      exact h

end Go.Proofs.YtncgdoeobblnkaaGreat

/- VcPart -/
namespace Go.Proofs.YtncgdoeobblnkaaGreat

theorem H.le.cell {v u : H} (h : v.le u) {a : Addr} {x : Value} (hc : v.cell? a = some x) : u.cell? a = some x := by
  unfold H.cell? at hc ⊢
  split at hc
  · rename_i c t f hx
    rw [h _ _ hx]
    exact hc
  · cases hc

section
variable {α β : Type} [Inhabited α] [Inhabited β] {lt : α → α → Bool} {lt' : β → β → Bool} {f : α → β}

theorem getD_map' (hd : f default = default) (l : List α) (i : Nat) : (l.map f).getD i default = f (l.getD i default) := by
  rw [List.getD_eq_getElem?_getD, List.getD_eq_getElem?_getD, List.getElem?_map]
  cases l[i]? with
  | none => exact hd.symm
  | some x => rfl

omit [Inhabited α] [Inhabited β] in
theorem swapL_map (l : List α) (i j : Nat) : (swapL l i j).map f = swapL (l.map f) i j := by
  unfold swapL
  rw [List.getElem?_map, List.getElem?_map]
  cases l[i]? <;> cases l[j]? <;> simp [List.map_set]

theorem upF_map (hd : f default = default) (hl : ∀ a b, lt' (f a) (f b) = lt a b) : ∀ (j : Nat) (l : List α), (upF lt l j).map f = upF lt' (l.map f) j := by
  intro j
  induction j using Nat.strongRecOn with
  | ind j ih =>
    intro l
    unfold upF
    by_cases h : j = 0
    · rw [dif_pos h, dif_pos h]
    · rw [dif_neg h, dif_neg h, getD_map' hd, getD_map' hd, hl]
      split
      · rw [ih (pa j) (by unfold pa; omega), swapL_map]
      · rfl

theorem kidF_map (hd : f default = default) (hl : ∀ a b, lt' (f a) (f b) = lt a b) (n : Nat) (l : List α) (i : Nat) : kidF lt' n (l.map f) i = kidF lt n l i := by
  unfold kidF
  rw [getD_map' hd, getD_map' hd, hl]

theorem downH_map (hd : f default = default) (hl : ∀ a b, lt' (f a) (f b) = lt a b) (n : Nat) : ∀ (m : Nat) (i : Nat) (l : List α), n - i ≤ m → (downH lt n l i).map f = downH lt' n (l.map f) i := by
  intro m
  induction m with
  | zero =>
    intro i l h
    unfold downH
    rw [dif_neg (by omega), dif_neg (by omega)]
  | succ m ih =>
    intro i l h
    unfold downH
    by_cases hc : 2 * i + 1 < n
    · rw [dif_pos hc, dif_pos hc, kidF_map hd hl, getD_map' hd, getD_map' hd, hl]
      split
      · obtain ⟨_, _, _, hk⟩ := kidF_ok (lt := lt) (l := l) hc
        rw [ih _ _ (by omega), swapL_map]
      · rfl
    · rw [dif_neg hc, dif_neg hc]

theorem pushF_map (hd : f default = default) (hl : ∀ a b, lt' (f a) (f b) = lt a b) (l : List α) (y : α) : (pushF lt l y).map f = pushF lt' (l.map f) (f y) := by
  unfold pushF
  rw [upF_map hd hl, List.map_append, List.length_map]
  rfl

theorem popF_map (hd : f default = default) (hl : ∀ a b, lt' (f a) (f b) = lt a b) (l : List α) : (popF lt l).map f = popF lt' (l.map f) := by
  unfold popF
  rw [List.map_dropLast, downH_map hd hl _ _ _ _ (Nat.le_refl _), swapL_map, List.length_map]
end

/-! ### parts in memory -/

/-- A part at an address, its parts too. -/
inductive PartAt (u : H) : Nat → Pt → Prop where
  | mk {n : Nat} {p : Pt} (ls hs is rs ks : Sl) (rows : List Rw) (ps : List Nat)
      (cell : u n = some (.cells #[.int .i64 p.sh, .slice ls.a ls.n ls.c, .slice hs.a hs.n hs.c, .int .u64 (hiW p.rad), .int .u64 (loW p.rad), .slice is.a is.n is.c, .slice rs.a rs.n rs.c, .slice ks.a ks.n ks.c] 96 (0, 0)))
      (isn : is.n = 0) (lo : Ints u ls p.lo) (hi : Ints u hs p.hi) (at' : Rws u rs rows) (pr : rows.map Rw.pr = p.rows)
      (kids : Seg u ks 1 (ps.map fun n => .pointer (some ⟨n, 0, none⟩))) (len : ps.length = p.kids.length) (each : ∀ (i : Nat) m k, ps[i]? = some m → p.kids[i]? = some k → PartAt u m k) : PartAt u n p

theorem PartAt.mono {u u' : H} {n : Nat} {p : Pt} (h : PartAt u n p) (hu : u.le u') : PartAt u' n p := by
  induction h with
  | mk ls hs is rs ks rows ps cell isn lo hi at' pr kids len each ih =>
    exact .mk ls hs is rs ks rows ps (hu _ _ cell) isn (lo.mono hu) (hi.mono hu) (at'.mono hu) pr (kids.mono hu) len ih

/-- The queue of parts: where they lie. -/
structure PQ (v u : H) (n : Nat) (l : List Op1) : Prop where
  ex : ∃ L : List QE, QueSt v n u L ∧ L.map (·.2) = l ∧ ∀ e ∈ L, ∃ m, e.1 = ⟨m, 0, none⟩ ∧ PartAt v m e.2.2

/-- Pushing a part. -/
theorem spec.push_part {v u : H} {n m : Nat} {l : List Op1} {p : Pt} {b : Int} {K : H → Prop} (h : PQ v u n l) (hl : l.length < 10000000) (hp : PartAt v m p) (hK : ∀ u', PQ v u' n (pushF blt l (b, p)) → K u') :
    C.heap_Push (queV n) (queI ((⟨m, 0, none⟩ : Addr), (b, p))) u K := by
  obtain ⟨L, hQ, hL, hall⟩ := h.ex
  have hlen : L.length = l.length := by rw [← hL, List.length_map]
  refine spec.heap_PushF (queHeap v n) (y := ((⟨m, 0, none⟩ : Addr), ((b, p) : Op1))) (fun hk => que_push hQ (by omega) hk) fun u' hs => hK u' ⟨pushF qlt L ((⟨m, 0, none⟩ : Addr), ((b, p) : Op1)), hs, ?_, fun e he => ?_⟩
  · have e := pushF_map (α := QE) (β := Op1) (lt := qlt) (lt' := blt) (f := fun e : QE => e.2) rfl (fun _ _ => rfl) L ((⟨m, 0, none⟩ : Addr), ((b, p) : Op1))
    rw [hL] at e
    exact e
  · have hperm := upF_perm (lt := qlt) L.length (L ++ [((⟨m, 0, none⟩ : Addr), ((b, p) : Op1))]) (by simp)
    rcases List.mem_append.1 (hperm.mem_iff.1 he) with h1 | h1
    · exact hall e h1
    · have := List.mem_singleton.1 h1
      subst this
      exact ⟨m, rfl, hp⟩

/-- The closure that adds a part. -/
theorem spec.flat_Walk_1 {v u : H} {n m n0 : Nat} {s : Sl} {q : List Int} {l : List Op1} {p : Pt} {K : H → Prop} (h : PQ v u n l) (hv : v.le u) (hl : l.length < 10000000) (hp : PartAt v m p) (hok : RegOk (p.rgn []) q.length) (hq : vok q)
    (hn0 : u.cell? ⟨n0, 0, none⟩ = some (.slice s.a s.n s.c)) (hs : Ints u s q) (hK : ∀ u', PQ v u' n (addW q l p) → K u') : C.flat_Walk_1 (some ⟨m, 0, none⟩) ⟨n0, 0, none⟩ ⟨n, 0, none⟩ u K := by
  cases hp with
  | mk ls hs' is rs ks rows ps cell isn lo hi at' pr kids len each =>
  have hc := hv _ _ cell
  have hreg : RegOk (⟨p.sh, ls, hs', p.rad, is, p.lo, p.hi, []⟩ : Rgn) q.length := ⟨hok.dim, hok.ids, hok.id, hok.shape⟩
  apply vc.flat_Walk_1
  have push : C.heap_Push (queV n) (queI ((⟨m, 0, none⟩ : Addr), (nearR (p.rgn []) q, p))) u K := spec.push_part h hl (.mk ls hs' is rs ks rows ps cell isn lo hi at' pr kids len each) fun u' hu' => hK u' hu'
  have hnear : nearR (⟨p.sh, ls, hs', p.rad, is, p.lo, p.hi, []⟩ : Rgn) q = nearR (p.rgn []) q := rfl
  refine ⟨_, rfl, _, H.cell?_of hc 0, ls, H.cell?_of hc 1, hs', H.cell?_of hc 2, _, H.cell?_of hc 3, _, H.cell?_of hc 4, is, H.cell?_of hc 5, s, hn0, ?_, H.le.refl u, ?_⟩
  · exact spec.vec_Bound (r := ⟨p.sh, ls, hs', p.rad, is, p.lo, p.hi, []⟩) (lo.mono hv) (hi.mono hv) hreg isn hs hq ⟨H.le.refl u, push⟩
  · exact spec.vec_Bound (r := ⟨p.sh, ls, hs', p.rad, is, p.lo, p.hi, []⟩) (lo.mono hv) (hi.mono hv) hreg isn hs hq push

end Go.Proofs.YtncgdoeobblnkaaGreat

/- VcIxB -/
namespace Go.Proofs.YtncgdoeobblnkaaGreat

def H0 : H := fun _ => none
theorem H0_le (u : H) : H0.le u := fun _ _ h => by cases h

theorem Own.f {u : H} {e k : Nat} {s : Sl} {xs : List Value} (h : Own u e k s xs) : OwnF H0 u e k s xs := ⟨h, H0_le u, fun _ _ => rfl⟩

/-- What is known but for a slice's block. -/
def H.sans (u : H) (s : Sl) : H := fun c => open Classical in if s.blk = some c then none else u c
theorem sans_at {u : H} {s : Sl} {c : Nat} (h : s.blk ≠ some c) : H.sans u s c = u c := if_neg h
theorem sans_le (u : H) (s : Sl) : (H.sans u s).le u := fun c o h => by
  unfold H.sans at h
  split at h
  · cases h
  · exact h
theorem sans_of {u : H} {s : Sl} {c : Nat} {o : Obj} (h : H.sans u s c = some o) : u c = some o ∧ s.blk ≠ some c := by
  unfold H.sans at h
  split at h
  · cases h
  · rename_i e; exact ⟨h, e⟩

section
variable {Tg Tr : Type}

/-- What lies in memory stays where its blocks do. -/
structure KeepG (A : (Nat → Option Tg) → H → Nat → Tr → Prop) : Prop where
  keep : ∀ {fp fp' : Nat → Option Tg} {u u' : H} {b : Nat} {T : Tr}, A fp u b T → (∀ c, fp c ≠ none → fp' c = fp c) → (∀ c o, u c = some o → fp c ≠ none → u' c = some o) → A fp' u' b T

/-- In memory, all of its blocks made behind u0. -/
structure InG (A : (Nat → Option Tg) → H → Nat → Tr → Prop) (u0 u : H) (fp : Nat → Option Tg) (b : Nat) (T : Tr) : Prop where
  tr : A fp u b T
  le : u0.le u
  out : ∀ c, fp c ≠ none → u0 c = none
  known : ∀ c, fp c ≠ none → u c ≠ none

/-- It has turned: what is not its own is as it was. -/
structure TurnG (u : H) (fp : Nat → Option Tg) (u' : H) (fp' : Nat → Option Tg) : Prop where
  keep : ∀ c o, u c = some o → fp c = none → u' c = some o
  grow : ∀ c, fp' c ≠ none → fp c ≠ none ∨ u c = none

variable {A : (Nat → Option Tg) → H → Nat → Tr → Prop}

omit A in
theorem TurnG.mono {u u' : H} {fp : Nat → Option Tg} (h : u.le u') : TurnG u fp u' fp := ⟨fun c o hc _ => h c o hc, fun _ h => .inl h⟩

omit A in
theorem TurnG.off {u u' : H} {fp fp' : Nat → Option Tg} (h : TurnG u fp u' fp') {c : Nat} {o : Obj} (hc : u c = some o) (hf : fp c = none) : fp' c = none := by
  cases e : fp' c with
  | none => rfl
  | some t =>
    rcases h.grow c (by rw [e]; simp) with h1 | h1
    · exact absurd hf h1
    · rw [hc] at h1; cases h1

omit A in
theorem TurnG.trans {u u1 u2 : H} {fp fp1 fp2 : Nat → Option Tg} (h : TurnG u fp u1 fp1) (k : TurnG u1 fp1 u2 fp2) : TurnG u fp u2 fp2 where
  keep c o hc hf := k.keep c o (h.keep c o hc hf) (h.off hc hf)
  grow c hc := by
    rcases k.grow c hc with h1 | h1
    · exact h.grow c h1
    · cases e : fp c with
      | some x => exact .inl (by simp)
      | none =>
        cases e2 : u c with
        | none => exact .inr rfl
        | some o => rw [h.keep c o e2 e] at h1; cases h1

omit A in
/-- Blocks that were unknown at first come to be its own. -/
theorem TurnG.tag {u u' : H} {fp fp' fp2 : Nat → Option Tg} (h : TurnG u fp u' fp') (k : ∀ c, fp2 c = fp' c ∨ fp c ≠ none ∨ u c = none) : TurnG u fp u' fp2 where
  keep := h.keep
  grow c hc := by
    rcases k c with h1 | h1
    · rw [h1] at hc; exact h.grow c hc
    · exact h1

theorem InG.same (hk : KeepG A) {u0 u u' : H} {fp : Nat → Option Tg} {b : Nat} {T : Tr} (h : InG A u0 u fp b T) (hu : ∀ c o, u c = some o → fp c ≠ none → u' c = some o) (hle : u0.le u') : InG A u0 u' fp b T :=
  ⟨hk.keep h.tr (fun _ _ => rfl) hu, hle, h.out, fun c hc => by
    obtain ⟨o, ho⟩ := Option.ne_none_iff_exists'.1 (h.known c hc)
    rw [hu c o ho hc]; simp⟩

theorem InG.mono (hk : KeepG A) {u0 u u' : H} {fp : Nat → Option Tg} {b : Nat} {T : Tr} (h : InG A u0 u fp b T) (hu : u.le u') : InG A u0 u' fp b T := h.same hk (fun c o hc _ => hu c o hc) (h.le.trans hu)

theorem InG.fresh {u0 u : H} {fp : Nat → Option Tg} {b : Nat} {T : Tr} (h : InG A u0 u fp b T) {c : Nat} (hc : u c = none) : fp c = none := by
  cases e : fp c with
  | none => rfl
  | some t => exact absurd hc (h.known c (by rw [e]; simp))

/-- Blocks that are nobody's yet come to be its own. -/
theorem InG.tag (hk : KeepG A) {u0 u : H} {fp : Nat → Option Tg} {b : Nat} {T : Tr} (h : InG A u0 u fp b T) (S : Nat → Option Tg) (hs : ∀ c, S c ≠ none → fp c = none ∧ u0 c = none ∧ u c ≠ none) :
    ∃ fp', InG A u0 u fp' b T ∧ (∀ c t, S c = some t → fp' c = some t) ∧ (∀ c, S c = none → fp' c = fp c) := by
  let fp' : Nat → Option Tg := fun c => match S c with | some t => some t | none => fp c
  have e1 : ∀ c t, S c = some t → fp' c = some t := fun c t hc => by simp only [fp', hc]
  have e2 : ∀ c, S c = none → fp' c = fp c := fun c hc => by simp only [fp', hc]
  have e3 : ∀ c, fp c ≠ none → fp' c = fp c := fun c hc => by
    cases e : S c with
    | none => exact e2 c e
    | some t => exact absurd (hs c (by rw [e]; simp)).1 hc
  refine ⟨fp', ⟨hk.keep h.tr e3 fun _ _ ho _ => ho, h.le, fun c hc => ?_, fun c hc => ?_⟩, e1, e2⟩
  · cases e : S c with
    | none => rw [e2 c e] at hc; exact h.out c hc
    | some t => exact (hs c (by rw [e]; simp)).2.1
  · cases e : S c with
    | none => rw [e2 c e] at hc; exact h.known c hc
    | some t => exact (hs c (by rw [e]; simp)).2.2

/-- A slice's block as blocks of a kind. -/
def Sl.tags (s : Sl) (t : Tg) : Nat → Option Tg := fun c => if s.blk = some c then some t else none

omit A in
theorem Sl.tags_at {s : Sl} {t : Tg} {c : Nat} (h : s.blk = some c) : s.tags t c = some t := if_pos h
omit A in
theorem Sl.tags_not {s : Sl} {t : Tg} {c : Nat} (h : s.blk ≠ some c) : s.tags t c = none := if_neg h
omit A in
theorem Sl.tags_ne {s : Sl} {t : Tg} {c : Nat} (h : s.tags t c ≠ none) : s.blk = some c := by
  by_cases e : s.blk = some c
  · exact e
  · exact absurd (Sl.tags_not e) h

/-- An index in memory: D: the blocks that are its own, all made behind u0. -/
structure IxG (A : (Nat → Option Tg) → H → Nat → Tr → Prop) (Ok : Tr → Prop) (u0 u : H) (D : Nat → Prop) (b : Nat) (X : Tr) : Prop where
  ex : ∃ fp, (∀ c, D c ↔ fp c ≠ none) ∧ InG A u0 u fp b X ∧ Ok X

end

structure IxTurn (u : H) (D : Nat → Prop) (u' : H) (D' : Nat → Prop) : Prop where
  keep : ∀ c o, u c = some o → ¬ D c → u' c = some o
  grow : ∀ c, D' c → D c ∨ u c = none

theorem IxTurn.mono {u u' : H} {D : Nat → Prop} (h : u.le u') : IxTurn u D u' D := ⟨fun c o hc _ => h c o hc, fun _ h => .inl h⟩

theorem IxTurn.trans {u u1 u2 : H} {D D1 D2 : Nat → Prop} (h : IxTurn u D u1 D1) (k : IxTurn u1 D1 u2 D2) : IxTurn u D u2 D2 where
  keep c o hc hf := k.keep c o (h.keep c o hc hf) fun hd => by
    rcases h.grow c hd with h1 | h1
    · exact hf h1
    · rw [hc] at h1; cases h1
  grow c hc := by
    rcases k.grow c hc with h1 | h1
    · exact h.grow c h1
    · by_cases e : D c
      · exact .inl e
      · right
        cases e2 : u c with
        | none => rfl
        | some o => rw [h.keep c o e2 e] at h1; cases h1

/-- What is apart from an index stays. -/
theorem IxTurn.apart {u u' v : H} {D D' : Nat → Prop} (h : IxTurn u D u' D') (hv : v.le u) (hd : ∀ c, D c → v c = none) : v.le u' ∧ ∀ c, D' c → v c = none := by
  refine ⟨fun c o hc => h.keep c o (hv c o hc) fun e => ?_, fun c hc => ?_⟩
  · have := hd c e; rw [hc] at this; cases this
  · rcases h.grow c hc with h1 | h1
    · exact hd c h1
    · exact hv.none h1

section
variable {Tg Tr : Type} {A : (Nat → Option Tg) → H → Nat → Tr → Prop} {Ok : Tr → Prop}

theorem ixg_of {u0 u : H} {fp : Nat → Option Tg} {b : Nat} {T : Tr} (h : InG A u0 u fp b T) (hT : Ok T) : IxG A Ok u0 u (fun c => fp c ≠ none) b T := ⟨fp, fun _ => Iff.rfl, h, hT⟩

omit A Ok in
theorem turn_ixg {u u' : H} {fp fp' : Nat → Option Tg} {D : Nat → Prop} (hD : ∀ c, D c ↔ fp c ≠ none) (h : TurnG u fp u' fp') : IxTurn u D u' (fun c => fp' c ≠ none) where
  keep c o hc hf := h.keep c o hc (by
    cases e : fp c with
    | none => rfl
    | some t => exact absurd ((hD c).2 (by rw [e]; simp)) hf)
  grow c hc := (h.grow c hc).imp (hD c).2 fun h => h

theorem IxG.base {u0 u : H} {D : Nat → Prop} {b : Nat} {X : Tr} (h : IxG A Ok u0 u D b X) : u0.le u ∧ (∀ c, D c → u0 c = none) ∧ ∀ c, D c → u c ≠ none := by
  obtain ⟨fp, h1, h2, _⟩ := h.ex
  exact ⟨h2.le, fun c hc => h2.out c ((h1 c).1 hc), fun c hc => h2.known c ((h1 c).1 hc)⟩

/-- An index is as it was where its own blocks are. -/
theorem IxG.same (hk : KeepG A) {u0 u u' : H} {D : Nat → Prop} {b : Nat} {X : Tr} (h : IxG A Ok u0 u D b X) (hu : ∀ c o, u c = some o → D c → u' c = some o) (hle : u0.le u') : IxG A Ok u0 u' D b X := by
  obtain ⟨fp, h1, h2, h3⟩ := h.ex
  exact ⟨fp, h1, h2.same hk (fun c o hc hf => hu c o hc ((h1 c).2 hf)) hle, h3⟩

theorem IxG.mono (hk : KeepG A) {u0 u u' : H} {D : Nat → Prop} {b : Nat} {X : Tr} (h : IxG A Ok u0 u D b X) (hu : u.le u') : IxG A Ok u0 u' D b X := h.same hk (fun c o hc _ => hu c o hc) (h.base.1.trans hu)

theorem IxG.rebase {u0 u v : H} {D : Nat → Prop} {b : Nat} {X : Tr} (h : IxG A Ok u0 u D b X) (hv : v.le u0) : IxG A Ok v u D b X := by
  obtain ⟨fp, h1, h2, h3⟩ := h.ex
  exact ⟨fp, h1, ⟨h2.tr, hv.trans h2.le, fun c hc => by
    cases hx : v c with
    | none => rfl
    | some o => have := hv _ _ hx; rw [h2.out c hc] at this; exact (nomatch this), h2.known⟩, h3⟩

end

end Go.Proofs.YtncgdoeobblnkaaGreat
