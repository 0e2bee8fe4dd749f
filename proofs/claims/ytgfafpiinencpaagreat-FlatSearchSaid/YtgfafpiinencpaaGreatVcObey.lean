/- What a sound answer is: the document's tests of answers that are. -/
import Derived.Test.YtgfafpiinencpaaGreatVcIntsPure
import Derived.Test.YtgfafpiinencpaaGreatVcLawE
namespace Go.Proofs.YtgfafpiinencpaaGreat

theorem sem_appendF {P : Program} {t ty e : TypeId} {size bytes : Nat} {zs : List Value} (hT : elemT P t = some (e, size, bytes, zs)) (hsz : 0 < size) {s x : Sl} {xs ys : List Value} {u0 u : H} {K : Sl → H → Prop}
    (ho : OwnF u0 u e size s xs) (hx : Seg u x size ys) (h1 : ∀ y ∈ ys, y.oneCell' = true) (hm : s.n + x.n ≤ 9223372036854775807) (hb : (s.n + x.n) * bytes ≤ 140737488355328)
    (hK : ∀ s' u', OwnF u0 u' e size s' (xs ++ ys) → s'.n = s.n + x.n → K s' u') :
    SemT P (Builtin.append_ #[t, t] ty #[.slice s.a s.n s.c, .slice x.a x.n x.c]) [.one .slice] u K :=
  sem_append hT hsz ho.own hx h1 hm hb fun s' u' h2 h3 hgr _ => hK s' u' ⟨h2, hgr.le ho.le ho.fresh, fun g' hg' => hgr.out ho.le ho.fresh g' hg'⟩ h3

theorem Ints.part {u : H} {s : Sl} {L : List Int} (hs : Ints u s L) {l h m : Nat} (h1 : l ≤ h) (h2 : h ≤ s.n) (h3 : h ≤ m) (h4 : m ≤ s.c) : Ints u (s.part l h m 1) ((L.drop l).take (h - l)) := by
  have := Seg.part hs h1 h2 h3 h4
  rw [Nat.mul_one, Nat.mul_one, ← List.map_drop, ← List.map_take] at this
  exact this

theorem Ints.nil (u : H) : Ints u ⟨none, 0, 0⟩ [] := (OwnF.nil (H.le.refl u) 0 1).own.seg

theorem Ints.get {u : H} {s : Sl} {L : List Int} (hs : Ints u s L) {x : Int} (h0 : 0 ≤ x) (h1 : x < (s.n : Int)) : ∃ p, s.a = some p ∧ ∃ y, L[x.toNat]? = some y ∧ u.cell? (p.add (x.toNat * 1)) = some (.int .i64 y) := by
  obtain ⟨p, hp, hc⟩ := hs.at h0 h1
  have hn := hs.len
  have hl : x.toNat < L.length := by omega
  refine ⟨p, hp, L[x.toNat], List.getElem?_eq_getElem hl, ?_⟩
  rw [hc]
  simp [List.getD_eq_getElem?_getD, hl]

/-! ### rows and numbers -/

theorem spec.theodoliteref05_find {s : Sl} {l : List Rw} {x : Int} {u : H} {K : Int → H → Prop} (hs : Rws u s l) (h1 : ∀ (i : Nat) r, l[i]? = some r → r.id = x → K i u) (h2 : (∀ r ∈ l, r.id ≠ x) → K (-1) u) : C.theodoliteref05_find s x u K := by
  have hn := hs.len
  have hmx := hs.max
  apply vc.theodoliteref05_find
  refine ⟨fun _ i v => v = u ∧ 0 ≤ i ∧ ∀ r ∈ l.take i.toNat, r.id ≠ x, fun _ i _ => s.n - i.toNat, ⟨rfl, by omega, fun r hr => by simp at hr⟩, ?_⟩
  rintro _ i v ⟨rfl, i0, hi0⟩
  refine ⟨fun hi => ?_, fun hi => h2 fun r hr => hi0 r (by rw [List.take_of_length_le (by omega)]; exact hr)⟩
  obtain ⟨p, hp, r, hr, c0, _, _⟩ := hs.at i0 hi
  refine ⟨p, hp, ⟨i0, hi⟩, _, c0, fun he => ?_, fun hne => ⟨⟨by omega, by omega⟩, ⟨rfl, by omega, fun r' hr' => ?_⟩, by dsimp only; omega⟩⟩
  · have := h1 i.toNat r hr he
    rw [show ((i.toNat : Nat) : Int) = i by omega] at this
    exact this
  · rw [show (i + 1).toNat = i.toNat + 1 by omega, List.take_add_one, hr] at hr'
    rcases List.mem_append.1 hr' with h | h
    · exact hi0 r' h
    · obtain rfl : r' = r := by simpa using h
      exact hne

theorem spec.theodoliteref03_With {s : Sl} {L : List Int} {x : Int} {u : H} {K : Sl → H → Prop} (hs : Ints u s (sortI L)) (hb : L.length ≤ 1000000) (hK : ∀ s' u', OwnF u u' 3 1 s' ((sortI (x :: L)).flatMap encI) → K s' u') : C.theodoliteref03_With s x u K := by
  have hn := hs.len
  have hcap : s.n ≤ s.c := Seg.cap hs
  have hsl := sortI_len L
  apply vc.theodoliteref03_With
  intro K0 hK0
  have one : ∀ (l : List Int), ∀ y ∈ l.flatMap encI, y.oneCell' = true := fun l y hy => by
    obtain ⟨h, _, hy⟩ := List.mem_flatMap.1 hy
    exact encI_one h y hy
  have fin : ∀ k : Nat, k ≤ s.n → (∀ y ∈ (sortI L).take k, y < x) → (∀ y, (sortI L)[k]? = some y → x ≤ y) → K0 (k : Int) u := by
    intro k hk h1 h2
    refine hK0 _ _ ?_
    refine sem_slice (l := 0) (h := k) (m := s.c) tInts (.inl ⟨rfl, rfl⟩) (.inr rfl) (.inl ⟨rfl, rfl⟩) (Nat.zero_le _) (by omega) (Nat.le_refl _) hcap ?_
    have p1 := hs.part (l := 0) (h := k) (m := s.c) (Nat.zero_le _) hk (by omega) (Nat.le_refl _)
    rw [List.drop_zero, Nat.sub_zero] at p1
    have p1' : Seg u (s.part 0 k s.c 1) 1 (((sortI L).take k).flatMap encI) := by rw [flatI]; exact p1
    have pn1 : (s.part 0 k s.c 1).n = k := rfl
    refine sem_appendF (s := ⟨none, 0, 0⟩) tInts (by decide) (OwnF.nil (H.le.refl u) 3 1) p1' (one _) (by rw [pn1]; show 0 + k ≤ _; omega) (by rw [pn1]; show (0 + k) * 8 ≤ _; omega) fun s5 u6 h5 n5' => ?_
    have n5 : s5.n = k := by rw [pn1] at n5'; simpa using n5'
    refine sem_push' tInts (build_int x) (by decide) rfl (by simp [Value.oneCell']) h5 (by omega) (by omega) fun s9 u10 h9 n9 _ _ _ => ?_
    refine sem_slice (l := k) (h := s.n) (m := s.c) tInts (.inr rfl) (.inl ⟨rfl, rfl⟩) (.inl ⟨rfl, rfl⟩) hk hcap (Nat.le_refl _) hcap ?_
    have p2 := (hs.mono h9.le).part (l := k) (h := s.n) (m := s.c) hk (Nat.le_refl _) hcap (Nat.le_refl _)
    rw [List.take_of_length_le (by simp; omega)] at p2
    have p2' : Seg u10 (s.part k s.n s.c 1) 1 (((sortI L).drop k).flatMap encI) := by rw [flatI]; exact p2
    have pn2 : (s.part k s.n s.c 1).n = s.n - k := rfl
    refine sem_appendF tInts (by decide) h9 p2' (one _) (by rw [pn2]; omega) (by rw [pn2]; omega) fun s13 u14 h13 _ => hK s13 u14 ?_
    rw [← sortI_with (by omega) h1 h2]
    simpa [List.flatMap_append, encI] using h13
  refine ⟨fun i v => v = u ∧ 0 ≤ i ∧ i ≤ (s.n : Int) ∧ ∀ y ∈ (sortI L).take i.toNat, y < x, fun i _ => s.n - i.toNat, ⟨rfl, by omega, by omega, by simp⟩, ?_⟩
  rintro i v ⟨rfl, i0, i1, hp⟩
  have ei : ((i.toNat : Nat) : Int) = i := by omega
  refine ⟨fun hi => ?_, fun hi => ?_⟩
  · obtain ⟨p, hp1, y, hy, c0⟩ := hs.get i0 hi
    refine ⟨p, hp1, ⟨i0, hi⟩, _, c0, fun hlt' => ⟨⟨by omega, by omega⟩, ⟨rfl, by omega, by omega, ?_⟩, by dsimp only; omega⟩, fun hge => ?_⟩
    · rw [show (i + 1).toNat = i.toNat + 1 by omega, List.take_add_one, hy]
      intro z hz
      rcases List.mem_append.1 hz with h | h
      · exact hp z h
      · obtain rfl : z = y := by simpa using h
        exact hlt'
    · have := fin i.toNat (by omega) hp fun z hz => by rw [hy] at hz; cases hz; omega
      rw [ei] at this
      exact this
  · have := fin i.toNat (by omega) hp fun z hz => by
      have := (List.getElem?_eq_some_iff.1 hz).1
      omega
    rw [ei] at this
    exact this

theorem sortI_nil : sortI [] = [] := by simp [sortI]

theorem spec.theodoliteref03_Ids {s : Sl} {l : List Rw} {u : H} {K : Sl → H → Prop} (hs : Rws u s l) (hb : l.length ≤ 1000000) (hK : ∀ s' u', u.le u' → Ints u' s' (sortI (l.map (·.id))) → K s' u') : C.theodoliteref03_Ids s u K := by
  have hn := hs.len
  apply vc.theodoliteref03_Ids
  refine ⟨fun t i v => 0 ≤ i ∧ u.le v ∧ Ints v t (sortI ((l.take i.toNat).map (·.id))), fun _ i _ => s.n - i.toNat, ⟨by omega, H.le.refl u, by simpa [sortI_nil] using Ints.nil u⟩, ?_⟩
  rintro t i v ⟨i0, hle, ht⟩
  change Ints v t _ at ht
  refine ⟨fun hi => ?_, fun hi => ?_⟩
  · obtain ⟨p, hp, r, hr, c0, _, _⟩ := (hs.mono hle).at i0 hi
    refine ⟨p, hp, ⟨i0, hi⟩, _, c0, spec.theodoliteref03_With ht (by simp; omega) fun s' u' ho => ⟨⟨by omega, by omega⟩, ⟨by omega, hle.trans ho.le, ?_⟩, by dsimp only; omega⟩⟩
    rw [show (i + 1).toNat = i.toNat + 1 by omega, take_ids hr, sortI_eq (List.perm_append_singleton _ _)]
    exact ho.ints
  · rw [List.take_of_length_le (by omega)] at ht
    exact hK t v hle ht

theorem spec.theodoliteref03_Ints {s t : Sl} {a b : List Int} {u : H} {K : Bool → H → Prop} (hs : Ints u s a) (ht : Ints u t b) (h : K (decide (a = b)) u) : C.theodoliteref03_Ints s t u K := by
  have key : ∀ z, decide (a = b) = z → K z u := fun z e => e ▸ h
  have hn := hs.len
  have hm := ht.len
  have hmx := hs.max
  apply vc.theodoliteref03_Ints
  refine ⟨fun hne => key _ ?_, fun he => ?_⟩
  · have : a ≠ b := fun e => hne (by rw [hn, hm, e])
    simp [this]
  · refine ⟨fun _ i v => v = u ∧ 0 ≤ i ∧ i ≤ (s.n : Int) ∧ a.take i.toNat = b.take i.toNat, fun _ i _ => s.n - i.toNat, ⟨rfl, by omega, by omega, by simp⟩, ?_⟩
    rintro _ i v ⟨rfl, h0, h1, hp⟩
    refine ⟨fun hi => ?_, fun hi => key _ ?_⟩
    · obtain ⟨p, hp1, x, hx, c0⟩ := hs.get h0 hi
      obtain ⟨q, hq1, y, hy, d0⟩ := ht.get h0 (show i < (t.n : Int) by omega)
      refine ⟨p, hp1, ⟨h0, hi⟩, q, hq1, ⟨h0, by omega⟩, _, c0, _, d0, fun hne => key _ ?_, fun hxy => ⟨⟨by omega, by omega⟩, ⟨rfl, by omega, by omega, ?_⟩, by dsimp only; omega⟩⟩
      · have : a ≠ b := fun e => hne (by rw [e, hy] at hx; cases hx; rfl)
        simp [this]
      · have e1 : (i + 1).toNat = i.toNat + 1 := by omega
        rw [e1, List.take_add_one, List.take_add_one, hp, hx, hy, hxy]
    · have e1 : i.toNat = a.length := by omega
      rw [e1, List.take_length, ← hn, show s.n = b.length by omega, List.take_length] at hp
      simp [hp]

/-! ### regions -/

structure Rgn where
  sh : Int
  ls : Sl
  hs : Sl
  rad : Int
  is : Sl
  lo : List Int
  hi : List Int
  ids : List Int

def encG (r : Rgn) : List Value := [.int .i64 r.sh, .slice r.ls.a r.ls.n r.ls.c, .slice r.hs.a r.hs.n r.hs.c, .int .u64 (hiW r.rad), .int .u64 (loW r.rad), .slice r.is.a r.is.n r.is.c]
theorem encG_len (r : Rgn) : (encG r).length = 6 := rfl
theorem encG_one (r : Rgn) : ∀ v ∈ encG r, v.oneCell' = true := by simp [encG, Value.oneCell']

def Rgs (u : H) (s : Sl) (l : List Rgn) : Prop := Seg u s 6 (l.flatMap encG) ∧ ∀ r ∈ l, Ints u r.ls r.lo ∧ Ints u r.hs r.hi ∧ Ints u r.is r.ids

theorem Rgs.len {u : H} {s : Sl} {l : List Rgn} (h : Rgs u s l) : s.n = l.length := flat_n encG_len (by decide) h.1
theorem Rgs.max {u : H} {s : Sl} {l : List Rgn} (h : Rgs u s l) : s.n ≤ 9223372036854775807 := Nat.le_trans (Seg.cap h.1) (Seg.max h.1)
theorem Rgs.mono {u u' : H} {s : Sl} {l : List Rgn} (h : Rgs u s l) (k : u.le u') : Rgs u' s l := ⟨Seg.mono h.1 k, fun r hr => ⟨(h.2 r hr).1.mono k, (h.2 r hr).2.1.mono k, (h.2 r hr).2.2.mono k⟩⟩

theorem Rgs.at {u : H} {s : Sl} {l : List Rgn} (h : Rgs u s l) {x : Int} (h0 : 0 ≤ x) (h1 : x < (s.n : Int)) : ∃ p, s.a = some p ∧ ∃ q : Rgn, l[x.toNat]? = some q ∧
    u.cell? (p.add (x.toNat * 6)) = some (.int .i64 q.sh) ∧ u.cell? ((p.add (x.toNat * 6)).add 1) = some (.slice q.ls.a q.ls.n q.ls.c) ∧ u.cell? ((p.add (x.toNat * 6)).add 2) = some (.slice q.hs.a q.hs.n q.hs.c) ∧
    u.cell? ((p.add (x.toNat * 6)).add 3) = some (.int .u64 (hiW q.rad)) ∧ u.cell? ((p.add (x.toNat * 6)).add 4) = some (.int .u64 (loW q.rad)) ∧ u.cell? ((p.add (x.toNat * 6)).add 5) = some (.slice q.is.a q.is.n q.is.c) := by
  have hn := h.len
  have hl : x.toNat < l.length := by omega
  obtain ⟨p, hp, hc⟩ := Seg.elem encG_len (by decide) h.1 (List.getElem?_eq_getElem hl)
  exact ⟨p, hp, _, List.getElem?_eq_getElem hl, hc 0 _ rfl, hc 1 _ rfl, hc 2 _ rfl, hc 3 _ rfl, hc 4 _ rfl, hc 5 _ rfl⟩

/-- A region that may be in an answer, of a dimension. -/
structure RegOk (r : Rgn) (d : Int) : Prop where
  dim : 1 ≤ d ∧ d ≤ 64
  ids : Rise r.ids
  id : ∀ x ∈ r.ids, 1 ≤ x ∧ x ≤ 1000000000
  shape : (r.sh = 1 ∧ r.lo = [] ∧ r.hi = [] ∧ r.rad = 0) ∨ (r.sh = 2 ∧ r.rad = 0 ∧ vok r.lo ∧ vok r.hi ∧ (r.lo.length : Int) = d ∧ (r.hi.length : Int) = d ∧ ∀ i : Nat, (i : Int) < d → r.lo.getD i 0 ≤ r.hi.getD i 0) ∨
    (r.sh = 3 ∧ r.hi = [] ∧ vok r.lo ∧ (r.lo.length : Int) = d ∧ Dok r.rad)

/-- A vector that lies in a region. -/
def Inside (r : Rgn) (v : List Int) : Prop := (r.sh = 2 → ∀ i : Nat, i < v.length → r.lo.getD i 0 ≤ v.getD i 0 ∧ v.getD i 0 ≤ r.hi.getD i 0) ∧ (r.sh = 3 → sqTo r.lo v r.lo.length ≤ r.rad)

theorem spec.theodoliteref03_ids {s : Sl} {l : List Int} {u : H} {K : Bool → H → Prop} (hs : Ints u s l) (hr : Rise l) (hid : ∀ x ∈ l, 1 ≤ x ∧ x ≤ 1000000000) (h : K true u) : C.theodoliteref03_ids s u K := by
  have hmx := hs.max
  apply vc.theodoliteref03_ids
  refine ⟨fun _ i v => v = u ∧ 0 ≤ i, fun _ i _ => s.n - i.toNat, ⟨rfl, by omega⟩, ?_⟩
  rintro _ i v ⟨rfl, i0⟩
  refine ⟨fun hi => ?_, fun _ => h⟩
  intro K5 hK5
  have next : ∀ b, K5 b v := fun b => hK5 _ _ ⟨⟨by omega, by omega⟩, ⟨rfl, by omega⟩, by dsimp only; omega⟩
  obtain ⟨p, hp, x, hx, c0⟩ := hs.get i0 hi
  have hxid := hid x (List.mem_of_getElem? hx)
  refine ⟨p, hp, ⟨i0, hi⟩, _, c0, spec.theodoliteref03_Id ?_⟩
  rw [decide_eq_true hxid]
  refine ⟨fun hb => absurd rfl hb, fun _ => ⟨fun hpos => ?_, fun _ => ⟨next _, next _⟩⟩⟩
  obtain ⟨p', hp', y, hy, d0⟩ := hs.get (x := i - 1) (by omega) (by omega)
  have hlt' : y < x := by
    obtain ⟨h1, e1⟩ := List.getElem?_eq_some_iff.1 hx
    obtain ⟨h2, e2⟩ := List.getElem?_eq_some_iff.1 hy
    have := List.pairwise_iff_getElem.1 hr _ _ h2 h1 (by omega)
    rw [e1, e2] at this
    exact this
  exact ⟨⟨by omega, by omega⟩, p', hp', ⟨by omega, by omega⟩, p, hp, ⟨i0, hi⟩, ⟨_, d0, _, c0, fun h => by omega, fun _ => next _⟩, ⟨_, c0, _, d0, fun h => by omega, fun _ => next _⟩⟩

theorem hiW0 : hiW 0 = 0 := by decide
theorem loW0 : loW 0 = 0 := by decide

theorem spec.theodoliteref03_form {r : Rgn} {d : Int} {u : H} {K : Bool → H → Prop} (h1 : Ints u r.ls r.lo) (h2 : Ints u r.hs r.hi) (hr : RegOk r d) (h : K true u) : C.theodoliteref03_form r.sh r.ls r.hs (hiW r.rad) (loW r.rad) r.is u K := by
  have n1 := h1.len
  have n2 := h2.len
  apply vc.theodoliteref03_form
  rcases hr.shape with ⟨e, e1, e2, e3⟩ | ⟨e, e3, _⟩ | ⟨e, e2, _⟩
  · rw [e3, hiW0, loW0]
    refine ⟨fun _ => ⟨fun _ => ⟨fun _ => ?_, fun hne => absurd (by rw [n2, e2]; rfl) hne⟩, fun hne => absurd (by rw [n1, e1]; rfl) hne⟩, fun hne => absurd e hne⟩
    rw [decide_eq_true (And.intro rfl rfl)]
    exact h
  · rw [e3, hiW0, loW0]
    refine ⟨fun h => by omega, fun _ => ⟨fun _ => ?_, fun hne => absurd e hne⟩⟩
    rw [decide_eq_true (And.intro rfl rfl)]
    exact h
  · refine ⟨fun h => by omega, fun _ => ⟨fun h => by omega, fun _ => ⟨fun _ => ?_, fun hne => absurd e hne⟩⟩⟩
    rw [decide_eq_true (show (r.hs.n : Int) = 0 by rw [n2, e2]; rfl)]
    exact h

theorem spec.theodoliteref03_CheckRegion {r : Rgn} {d : Int} {u : H} {K : Int → H → Prop} (h1 : Ints u r.ls r.lo) (h2 : Ints u r.hs r.hi) (h3 : Ints u r.is r.ids) (hr : RegOk r d) (h : K 0 u) : C.theodoliteref03_CheckRegion r.sh r.ls r.hs (hiW r.rad) (loW r.rad) r.is d u K := by
  have hd := hr.dim
  have n1 := h1.len
  have n2 := h2.len
  apply vc.theodoliteref03_CheckRegion
  intro K0 hK0
  refine ⟨fun h => by omega, fun _ => ⟨fun h => by omega, fun _ => hK0 _ _ ?_⟩⟩
  clear hK0 K0
  intro K3 hK3
  refine spec.theodoliteref03_form h1 h2 hr ⟨fun hb => absurd rfl hb, fun _ => spec.theodoliteref03_ids h3 hr.ids hr.id ⟨fun hb => absurd rfl hb, fun _ => hK3 _ _ ?_⟩⟩
  clear hK3 K3
  have check : ∀ {v : List Int}, vok v → (v.length : Int) = d → vcheck v d = 0 := fun hv hl => by rw [← hl]; exact ok_vcheck hv (by omega)
  rcases hr.shape with ⟨e, e1, e2, e3⟩ | ⟨e, e3, v1, v2, l1, l2, hle⟩ | ⟨e, e2, v1, l1, _⟩
  · exact ⟨fun _ => h, fun hne => absurd e hne⟩
  · refine ⟨fun h => by omega, fun _ => spec.theodoliteref03_Check h1 ?_⟩
    rw [check v1 l1]
    intro K8 hK8
    refine ⟨fun hne => absurd rfl hne, fun _ => ⟨fun h => by omega, fun _ => hK8 _ _ (spec.theodoliteref03_Check h2 ?_)⟩⟩
    rw [check v2 l2]
    refine ⟨fun hne => absurd rfl hne, fun _ => ⟨fun _ i v => v = u ∧ 0 ≤ i, fun _ i _ => d.toNat - i.toNat, ⟨rfl, by omega⟩, ?_⟩⟩
    rintro _ i v ⟨rfl, i0⟩
    refine ⟨fun hi => ?_, fun _ => h⟩
    obtain ⟨p, hp, c0⟩ := h1.at i0 (show i < (r.ls.n : Int) by omega)
    obtain ⟨p', hp', d0⟩ := h2.at i0 (show i < (r.hs.n : Int) by omega)
    have := hle i.toNat (by omega)
    exact ⟨p, hp, ⟨i0, by omega⟩, _, c0, p', hp', ⟨i0, by omega⟩, _, d0, fun h => by omega, fun _ => ⟨⟨by omega, by omega⟩, ⟨rfl, by omega⟩, by dsimp only; omega⟩⟩
  · refine ⟨fun h => by omega, fun _ => spec.theodoliteref03_Check h1 ?_⟩
    rw [check v1 l1]
    intro K8 hK8
    exact ⟨fun hne => absurd rfl hne, fun _ => ⟨fun _ => h, fun hne => absurd e hne⟩⟩

theorem spec.theodoliteref03_In {r : Rgn} {d : Int} {t : Sl} {v : List Int} {u : H} {K : Bool → H → Prop} (h1 : Ints u r.ls r.lo) (h2 : Ints u r.hs r.hi) (hr : RegOk r d) (hv : Ints u t v) (hvo : vok v) (hl : (v.length : Int) = d) (hin : Inside r v) (h : K true u) :
    C.theodoliteref03_In r.sh r.ls r.hs (hiW r.rad) (loW r.rad) r.is t u K := by
  have n1 := h1.len
  have n2 := h2.len
  have nv := hv.len
  have hd := hr.dim
  apply vc.theodoliteref03_In
  rcases hr.shape with ⟨e, _⟩ | ⟨e, _, v1, v2, l1, l2, hle⟩ | ⟨e, e2, v1, l1, hrad⟩
  · exact ⟨fun h => by omega, fun _ => ⟨fun h => by omega, fun _ => h⟩⟩
  · refine ⟨fun _ => ⟨fun _ i w => w = u ∧ 0 ≤ i, fun _ i _ => t.n - i.toNat, ⟨rfl, by omega⟩, ?_⟩, fun hne => absurd e hne⟩
    rintro _ i w ⟨rfl, i0⟩
    refine ⟨fun hi => ?_, fun _ => h⟩
    intro K5 hK5
    obtain ⟨p, hp, c0⟩ := hv.at i0 hi
    obtain ⟨p1, hp1, c1⟩ := h1.at i0 (show i < (r.ls.n : Int) by omega)
    obtain ⟨p2, hp2, c2⟩ := h2.at i0 (show i < (r.hs.n : Int) by omega)
    have := hin.1 e i.toNat (by omega)
    exact ⟨p, hp, ⟨i0, hi⟩, _, c0, p1, hp1, ⟨i0, by omega⟩, _, c1, fun h => by omega, fun _ => ⟨p, hp, ⟨i0, hi⟩, _, c0, p2, hp2, ⟨i0, by omega⟩, _, c2, fun h => by omega, fun _ => hK5 _ _ ⟨⟨by omega, by omega⟩, ⟨rfl, by omega⟩, by dsimp only; omega⟩⟩⟩
  · refine ⟨fun h => by omega, fun _ => ⟨fun _ => ?_, fun hne => absurd e hne⟩⟩
    refine spec.theodoliteref03_Far h1 hv v1 hvo (by omega) fun x y hx hy hw => ⟨H.le.refl u, spec.theodoliteref01_Less (hiU hrad) (loU _) hx hy ?_⟩
    have hf : decide (wv (hiW r.rad) (loW r.rad) < wv x y) = false := by
      have := hin.2 e
      rw [wv_hl, hw]
      simpa using this
    rw [hf]
    exact h

theorem spec.theodoliteref05_region {s : Sl} {l : List Rw} {r : Rgn} {d : Int} {u : H} {K : Bool → H → Prop} (hs : Rws u s l) (hl : Rok l d) (h1 : Ints u r.ls r.lo) (h2 : Ints u r.hs r.hi) (h3 : Ints u r.is r.ids) (hr : RegOk r d) (hne : r.ids ≠ [])
    (hin : ∀ x ∈ r.ids, ∃ w ∈ l, w.id = x ∧ Inside r w.v) (h : K true u) : C.theodoliteref05_region s r.sh r.ls r.hs (hiW r.rad) (loW r.rad) r.is d u K := by
  have n3 := h3.len
  have hn := hs.len
  have m3 := h3.max
  apply vc.theodoliteref05_region
  intro K0 hK0
  refine spec.theodoliteref03_CheckRegion h1 h2 h3 hr ⟨fun hb => absurd rfl hb, fun _ => ⟨fun h0 => ?_, fun _ => hK0 _ _ ?_⟩⟩
  · exact absurd (List.eq_nil_of_length_eq_zero (by omega)) hne
  refine ⟨fun _ i v => v = u ∧ 0 ≤ i, fun _ i _ => r.is.n - i.toNat, ⟨rfl, by omega⟩, ?_⟩
  rintro _ i v ⟨rfl, i0⟩
  refine ⟨fun hi => ?_, fun _ => h⟩
  obtain ⟨p, hp, x, hx, c0⟩ := h3.get i0 hi
  obtain ⟨w, hw, hwx, hwin⟩ := hin x (List.mem_of_getElem? hx)
  refine ⟨p, hp, ⟨i0, hi⟩, _, c0, spec.theodoliteref05_find hs (fun j w' hj hid => ⟨fun h => by omega, fun _ => ?_⟩) fun hno => absurd hwx (hno w hw)⟩
  have hj' := (List.getElem?_eq_some_iff.1 hj).1
  have hww : w' = w := by
    obtain ⟨k, hk, e⟩ := List.getElem_of_mem hw
    have e' := (List.getElem?_eq_some_iff.1 hj).2
    have hjk : j = k := by
      have hnd := hl.nodup
      rcases Nat.lt_trichotomy j k with hlt' | heq | hgt
      · have := List.pairwise_iff_getElem.1 hnd j k (by simpa using hj') (by simpa using hk) hlt'
        simp only [List.getElem_map, e, e'] at this
        exact absurd (by rw [hid, hwx]) this
      · exact heq
      · have := List.pairwise_iff_getElem.1 hnd k j (by simpa using hk) (by simpa using hj') hgt
        simp only [List.getElem_map, e, e'] at this
        exact absurd (by rw [hid, hwx]) this
    subst hjk
    rw [← e', ← e]
  subst hww
  obtain ⟨pa, hpa, q, hq, _, d1, dv⟩ := hs.at (x := (j : Int)) (by omega) (by omega)
  rw [show ((j : Int)).toNat = j by omega] at hq d1
  rw [hj] at hq
  cases hq
  have hv := hl.v w' hw
  refine ⟨pa, hpa, ⟨by omega, by omega⟩, w'.s, by rw [show ((j : Int)).toNat = j by omega]; exact d1, spec.theodoliteref03_In h1 h2 hr dv hv.2 hv.1 hwin ⟨fun hb => absurd rfl hb, fun _ => ⟨⟨by omega, by omega⟩, ⟨rfl, by omega⟩, by dsimp only; omega⟩⟩⟩

/-! ### sound -/

/-- An answer as it is told: hits, ids that were seen, regions. -/
structure AnsR (u : H) (sh ss sr : Sl) (hits : List Hit) (seen : List Int) (rest : List Rgn) : Prop where
  h : Hts u sh hits
  s : Ints u ss seen
  r : Rgs u sr rest

theorem AnsR.mono {u u' : H} {sh ss sr : Sl} {hits : List Hit} {seen : List Int} {rest : List Rgn} (h : AnsR u sh ss sr hits seen rest) (k : u.le u') : AnsR u' sh ss sr hits seen rest := ⟨h.h.mono k, h.s.mono k, h.r.mono k⟩

/-- What a sound answer is, of rows. -/
structure Sound (l : List Rw) (q : List Int) (k : Int) (hits : List Hit) (seen : List Int) (rest : List Rgn) : Prop where
  rise : Rise seen
  reg : ∀ r ∈ rest, RegOk r q.length ∧ r.ids ≠ [] ∧ ∀ x ∈ r.ids, ∃ w ∈ l, w.id = x ∧ Inside r w.v
  all : (seen ++ rest.flatMap (·.ids)).Perm (l.map (·.id))
  first : ∀ m : List Rw, (∀ r ∈ m, r ∈ l) → m.map (·.id) = seen → hits = topk k.toNat (m.map (hitOf q))

theorem build_row1 (x : Int) (s : Sl) : buildOf Tryz.prog 22 1 #[(0, .agg #[.int .i64 x, .slice s.a s.n s.c])] = some (49, [.int .i64 x, .slice s.a s.n s.c]) := by kernel_rfl

theorem OwnF.rws {u0 u : H} {e : Nat} {s : Sl} {m l : List Rw} {t : Sl} (h : OwnF u0 u e 2 s (m.flatMap encR)) (hl : Rws u t l) (hm : ∀ r ∈ m, r ∈ l) : Rws u s m := ⟨h.own.seg, fun r hr => hl.2 r (hm r hr)⟩

theorem spec.theodoliteref05_Sound {s t sh ss sr : Sl} {l : List Rw} {q : List Int} {k : Int} {hits : List Hit} {seen : List Int} {rest : List Rgn} {u : H} {K : Bool → H → Prop} (hs : Rws u s l) (ht : Ints u t q) (hq : Qok l q) (k1 : 0 ≤ k)
    (ha : AnsR u sh ss sr hits seen rest) (hS : Sound l q k hits seen rest) (h : K true u) : C.theodoliteref05_Sound s t k sh ss sr u K := by
  have hn := hs.len
  have hqn := ht.len
  have nS := ha.s.len
  have nR := ha.r.len
  have nH := ha.h.len
  have mR := ha.r.max
  have hlen := hq.rows.len
  have htot : seen.length + (rest.flatMap (·.ids)).length = l.length := by have := hS.all.length_eq; simpa using this
  have hseen : ∀ x ∈ seen, ∃ r ∈ l, r.id = x := fun x hx => by
    have := hS.all.mem_iff.1 (List.mem_append_left _ hx)
    obtain ⟨r, hr, e⟩ := List.mem_map.1 this
    exact ⟨r, hr, e⟩
  refine ClT.forget (ss := [.one .bool]) ?_
  apply vc.theodoliteref05_Sound
  refine ⟨fun _ s3 s4 i v => 0 ≤ i ∧ i ≤ (ss.n : Int) ∧ Ints v s3 (sortI (seen.take i.toNat)) ∧ ∃ m : List Rw, OwnF u v 49 2 s4 (m.flatMap encR) ∧ (∀ r ∈ m, r ∈ l) ∧ m.map (·.id) = seen.take i.toNat, fun _ _ _ i _ => ss.n - i.toNat,
    ⟨by omega, by omega, by simpa [sortI_nil] using Ints.nil u, [], OwnF.nil (H.le.refl u) _ _, fun r hr => (by cases hr), by simp⟩, ?_⟩
  rintro b s3 s4 i v ⟨i0, i1, hall, m, ho, hml, hmid⟩
  change Ints v s3 _ at hall
  change OwnF u v _ 2 s4 _ at ho
  have hmlen : m.length = i.toNat := by have := congrArg List.length hmid; simp at this; omega
  refine ⟨fun hi => ?_, fun hi => ?_⟩
  · obtain ⟨p, hp, x, hx, c0⟩ := (ha.s.mono ho.le).get i0 hi
    obtain ⟨w, hw, hwx⟩ := hseen x (List.mem_of_getElem? hx)
    refine ⟨p, hp, ⟨i0, hi⟩, _, c0, spec.theodoliteref05_find (hs.mono ho.le) (fun j r hj hid => ?_) fun hno => absurd hwx (hno w hw)⟩
    have hj' := (List.getElem?_eq_some_iff.1 hj).1
    intro K11 hK11
    have go : ∀ b, K11 b v := by
      intro b
      refine hK11 _ _ ⟨p, hp, ⟨i0, hi⟩, _, c0, spec.theodoliteref03_With hall (by simp; omega) fun s16 u17 h16 => ?_⟩
      obtain ⟨pa, hpa, r', hr', d0, d1, dv⟩ := (hs.mono (ho.le.trans h16.le)).at (x := (j : Int)) (by omega) (by omega)
      have ej : ((j : Int)).toNat = j := by omega
      rw [ej] at hr' d0 d1
      rw [hj] at hr'
      cases hr'
      have hsn := flat_n encR_len (by decide) ho.own.seg
      refine ⟨pa, hpa, ⟨by omega, by omega⟩, _, by rw [ej]; exact d0, r.s, by rw [ej]; exact d1, sem_push' tRows (build_row1 _ _) (by decide) rfl (by simp [Value.oneCell']) (ho.mono h16.le) (by omega) (by omega) fun s23 u24 h23 n23 hel hbl _ => ⟨⟨by omega, by omega⟩, ⟨by omega, by omega, ?_, m ++ [r], ?_, ?_, ?_⟩, by dsimp only; omega⟩⟩
      · have h16' : OwnF v u17 3 1 s16 ((sortI (x :: seen.take i.toNat)).flatMap encI) := h16
        have hI : Own u24 3 1 s16 ((sortI (x :: seen.take i.toNat)).flatMap encI) := h16'.own.le fun b o hb hu => hel b o hu fun e => own_known ho e (h16'.fresh b hb)
        have hI2 : Ints u24 s16 (sortI (x :: seen.take i.toNat)) := by
          have := hI.seg
          rw [flatI] at this
          exact this
        rw [show (i + 1).toNat = i.toNat + 1 by omega, List.take_add_one, hx]
        have e : sortI (seen.take i.toNat ++ (some x).toList) = sortI (x :: seen.take i.toNat) := sortI_eq (List.perm_append_singleton _ _)
        rw [e]
        exact hI2
      · rw [List.flatMap_append]
        simpa [encR] using h23
      · intro r' hr'
        rcases List.mem_append.1 hr' with hr' | hr'
        · exact hml r' hr'
        · obtain rfl : r' = r := by simpa using hr'
          exact List.mem_of_getElem? hj
      · rw [show (i + 1).toNat = i.toNat + 1 by omega, List.take_add_one, hx, List.map_append, hmid, ← hid]
        rfl
    refine ⟨fun h => by omega, fun _ => ⟨fun hpos => ?_, fun _ => go _⟩⟩
    obtain ⟨p', hp', y, hy, d0⟩ := (ha.s.mono ho.le).get (x := i - 1) (by omega) (by omega)
    have hlt' : y < x := by
      obtain ⟨h1, e1⟩ := List.getElem?_eq_some_iff.1 hx
      obtain ⟨h2, e2⟩ := List.getElem?_eq_some_iff.1 hy
      have := List.pairwise_iff_getElem.1 hS.rise _ _ h2 h1 (by omega)
      rw [e1, e2] at this
      exact this
    exact ⟨⟨by omega, by omega⟩, p', hp', ⟨by omega, by omega⟩, _, d0, p, hp, ⟨i0, hi⟩, _, c0, fun h => by omega, fun _ => go _⟩
  -- all are seen
  rw [List.take_of_length_le (by omega)] at hall hmid
  have hsub : ∀ i, ((rest.take i).flatMap (·.ids)).length ≤ 512 := fun i => by
    have := congrArg (List.flatMap (·.ids)) (List.take_append_drop i rest)
    rw [List.flatMap_append] at this
    have := congrArg List.length this
    rw [List.length_append] at this
    omega
  refine ⟨fun _ s32 i w => 0 ≤ i ∧ i ≤ (sr.n : Int) ∧ v.le w ∧ Ints w s32 (sortI (seen ++ (rest.take i.toNat).flatMap (·.ids))), fun _ _ i _ => sr.n - i.toNat, ⟨by omega, by omega, H.le.refl v, by simpa using hall⟩, ?_⟩
  rintro _ s32 i w ⟨i0, i1, hvw, hall2⟩
  change Ints w s32 _ at hall2
  have huw := ho.le.trans hvw
  refine ⟨fun hi => ?_, fun hi => ?_⟩
  · obtain ⟨p, hp, g, hg, c0, c1, c2, c3, c4, c5⟩ := (ha.r.mono huw).at i0 hi
    have hgm := List.mem_of_getElem? hg
    obtain ⟨r1, r2, r3⟩ := (ha.r.mono huw).2 g hgm
    obtain ⟨gok, gne, gin⟩ := hS.reg g hgm
    refine ⟨p, hp, ⟨i0, hi⟩, _, c0, _, c1, _, c2, _, c3, _, c4, _, c5, ?_⟩
    rw [hqn]
    refine spec.theodoliteref05_region (hs.mono huw) hq.rows r1 r2 r3 gok gne gin ⟨fun hb => absurd rfl hb, fun _ => ?_⟩
    have ngi := r3.len
    have hg1 : (rest.take (i.toNat + 1)).flatMap (·.ids) = (rest.take i.toNat).flatMap (·.ids) ++ g.ids := by
      rw [List.take_add_one, hg, List.flatMap_append]; simp
    have hgl := hsub (i.toNat + 1)
    rw [hg1, List.length_append] at hgl
    refine ⟨fun s46 j w' => 0 ≤ j ∧ j ≤ (g.is.n : Int) ∧ v.le w' ∧ Ints w' s46 (sortI (seen ++ (rest.take i.toNat).flatMap (·.ids) ++ g.ids.take j.toNat)), fun _ j _ => g.is.n - j.toNat, ⟨by omega, by omega, hvw, by simpa using hall2⟩, ?_⟩
    rintro s46 j w' ⟨j0, j1, hvw', hall3⟩
    change Ints w' s46 _ at hall3
    have huw' := ho.le.trans hvw'
    obtain ⟨p', hp', g', hg', _, _, _, _, _, d5⟩ := (ha.r.mono huw').at i0 hi
    rw [hg] at hg'
    cases hg'
    refine ⟨p', hp', ⟨i0, hi⟩, g.is, d5, fun hj => ?_, fun hj => ⟨⟨by omega, by omega⟩, ⟨by omega, by omega, hvw', ?_⟩, by dsimp only; omega⟩⟩
    · obtain ⟨pi, hpi, x, hx, e0⟩ := ((ha.r.mono huw').2 g hgm).2.2.get j0 hj
      refine ⟨p', hp', ⟨i0, hi⟩, g.is, d5, pi, hpi, ⟨j0, hj⟩, _, e0, spec.theodoliteref03_With hall3 (by rw [List.length_append, List.length_append, List.length_take]; omega) fun s55 u56 h55 => ⟨⟨by omega, by omega⟩, ⟨by omega, by omega, hvw'.trans h55.le, ?_⟩, by dsimp only; omega⟩⟩
      rw [show (j + 1).toNat = j.toNat + 1 by omega, List.take_add_one, hx]
      have e : sortI (seen ++ (rest.take i.toNat).flatMap (·.ids) ++ (g.ids.take j.toNat ++ (some x).toList)) = sortI (x :: (seen ++ (rest.take i.toNat).flatMap (·.ids) ++ g.ids.take j.toNat)) := by
        rw [← List.append_assoc]
        exact sortI_eq (List.perm_append_singleton _ _)
      rw [e]
      exact h55.ints
    · rw [show (i + 1).toNat = i.toNat + 1 by omega, hg1, ← List.append_assoc]
      rw [List.take_of_length_le (l := g.ids) (show g.ids.length ≤ j.toNat by omega)] at hall3
      exact hall3
  rw [List.take_of_length_le (by omega)] at hall2
  have hm2 := (ho.mono hvw).rws (hs.mono huw) hml
  refine spec.theodoliteref05_Hits hm2 (ht.mono huw) (fun r hr => ⟨(hq.rows.v r (hml r hr)).2, by have := (hq.rows.v r (hml r hr)).1; omega⟩) hq.vq (by omega) fun s57 u58 h57 => ?_
  refine spec.theodoliteref05_First h57.hts k1 fun s59 h59 => ?_
  have hfirst := hS.first m hml hmid
  have h59' : Hts u58 s59 hits := by rw [hfirst]; exact h59
  have n59 := h59'.len
  have hu58 := huw.trans h57.le
  have hH := ha.h.mono hu58
  refine ⟨fun hne => absurd (by rw [n59, nH]) hne, fun _ => ⟨fun _ i w' => w' = u58 ∧ 0 ≤ i, fun _ i _ => s59.n - i.toNat, ⟨rfl, by omega⟩, ?_⟩⟩
  rintro _ i w' ⟨rfl, i0⟩
  have hmx := h59'.max
  refine ⟨fun hi => ?_, fun hi => ?_⟩
  · obtain ⟨p, hp, x, hx, c0, c1, c2⟩ := h59'.at i0 hi
    obtain ⟨p', hp', y, hy, d0, d1, d2⟩ := hH.at i0 (show i < (sh.n : Int) by omega)
    rw [hx] at hy
    cases hy
    exact ⟨p, hp, ⟨i0, hi⟩, _, c0, _, c1, _, c2, p', hp', ⟨i0, by omega⟩, _, d0, _, d1, _, d2, fun hne => absurd ⟨rfl, rfl, rfl⟩ hne, fun _ => ⟨⟨by omega, by omega⟩, ⟨rfl, by omega⟩, by dsimp only; omega⟩⟩
  · refine spec.theodoliteref03_Ids (hs.mono hu58) (by omega) fun s74 u75 l75 h74 => spec.theodoliteref03_Ints (hall2.mono (h57.le.trans l75)) h74 ?_
    rw [decide_eq_true (sortI_eq hS.all)]
    exact ⟨hu58.trans l75, h⟩

theorem spec.theodoliteref05_Obeys {s t sh ss sr : Sl} {l : List Rw} {q : List Int} {k b : Int} {hits : List Hit} {seen : List Int} {rest : List Rgn} {u : H} {K : Bool → H → Prop} (hs : Rws u s l) (ht : Ints u t q) (hq : Qok l q) (k1 : 0 ≤ k)
    (ha : AnsR u sh ss sr hits seen rest) (hS : Sound l q k hits seen rest) (hb : (seen.length : Int) ≤ b) (hb2 : (seen.length : Int) = b ∨ seen.length = l.length) (h : K true u) : C.theodoliteref05_Obeys s t k b sh ss sr u K := by
  have hn := hs.len
  have nS := ha.s.len
  apply vc.theodoliteref05_Obeys
  intro K0 hK0
  refine spec.theodoliteref05_Sound hs ht hq k1 ha hS ⟨fun hb => absurd rfl hb, fun _ => ⟨fun h => by omega, fun _ => hK0 _ _ ⟨fun _ => h, fun h1 => ⟨fun _ => h, fun h2 => ?_⟩⟩⟩⟩
  omega

end Go.Proofs.YtgfafpiinencpaaGreat
