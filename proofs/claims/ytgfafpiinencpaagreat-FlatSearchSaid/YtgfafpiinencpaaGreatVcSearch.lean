/- flat.Search. -/
import Derived.Test.YtgfafpiinencpaaGreatVcBox
namespace Go.Proofs.YtgfafpiinencpaaGreat

theorem tRows : elemT Tryz.prog 22 = some (49, 2, 32, [.int .i64 0, .slice none 0 0]) := by kernel_rfl

theorem Rws.part {u : H} {s : Sl} {L : List Rw} (hs : Rws u s L) {l h m : Nat} (h1 : l ≤ h) (h2 : h ≤ s.n) (h3 : h ≤ m) (h4 : m ≤ s.c) : Rws u (s.part l h m 2) ((L.drop l).take (h - l)) := by
  refine ⟨?_, fun r hr => hs.2 r (List.mem_of_mem_drop (List.mem_of_mem_take hr))⟩
  have := Seg.part hs.1 h1 h2 h3 h4
  rw [flat_drop encR_len, flat_take encR_len] at this
  exact this

theorem Rok.sub {l l' : List Rw} {d : Int} (h : Rok l d) (hs : l'.Sublist l) : Rok l' d :=
  ⟨h.dim, Nat.le_trans hs.length_le h.len, fun r hr => h.id r (hs.mem hr), h.nodup.sublist (hs.map _), fun r hr => h.v r (hs.mem hr)⟩

theorem Qok.sub {l l' : List Rw} {q : List Int} (h : Qok l q) (hs : l'.Sublist l) : Qok l' q := ⟨h.vq, h.rows.sub hs⟩

theorem build_region (a b c : Sl) (x y z : Int) : buildOf Tryz.prog 37 1 #[(0, .agg #[.int .i64 x, .slice a.a a.n a.c, .slice b.a b.n b.c, .int .u64 y, .int .u64 z, .slice c.a c.n c.c])] =
    some (73, [.int .i64 x, .slice a.a a.n a.c, .slice b.a b.n b.c, .int .u64 y, .int .u64 z, .slice c.a c.n c.c]) := by kernel_rfl

/-- An answer in memory: its hits, what was seen, what was left (a box of these rows, or nothing). -/
structure AnsAt (u0 u : H) (sh ss sr : Sl) (hits : List Hit) (seen : List Int) (rest : List Rw) : Prop where
  h : OwnF u0 u 62 3 sh (hits.flatMap encH)
  s : OwnF u0 u 3 1 ss (seen.flatMap encI)
  hs : ∀ g, sh.blk = some g → ss.blk ≠ some g
  r : (rest = [] ∧ sr = ⟨none, 0, 0⟩) ∨ rest ≠ [] ∧ sr.n = 1 ∧ ∃ a b c : Sl, OwnF u0 u 73 6 sr [.int .i64 2, .slice a.a a.n a.c, .slice b.a b.n b.c, .int .u64 0, .int .u64 0, .slice c.a c.n c.c] ∧
    OwnF u0 u 3 1 a ((boxLo rest).flatMap encI) ∧ OwnF u0 u 3 1 b ((boxHi rest).flatMap encI) ∧ OwnF u0 u 3 1 c ((sortI (rest.map (·.id))).flatMap encI) ∧
    a.blk ≠ b.blk ∧ a.blk ≠ c.blk ∧ b.blk ≠ c.blk ∧ (∀ x ∈ [a, b, c], ∀ g, x.blk = some g → sh.blk ≠ some g ∧ ss.blk ≠ some g ∧ sr.blk ≠ some g) ∧ (∀ g, sr.blk = some g → sh.blk ≠ some g ∧ ss.blk ≠ some g)

/-- What the errors of a search are. -/
def srchErr (l : List Rw) (q : List Int) (k b : Int) : Int := if asked l q ≠ 0 then asked l q else if k < 1 ∨ 64 < k ∨ b < 0 ∨ 1000000 < b then 1 else 0

theorem own_known {u0 u : H} {e k : Nat} {s : Sl} {xs : List Value} (h : OwnF u0 u e k s xs) {g : Nat} (hg : s.blk = some g) : u g ≠ none := by
  rcases h.own.is with h0 | ⟨g', cur, ha, hg', _⟩
  · rw [h0] at hg; simp [Sl.blk] at hg
  · have : g' = g := by simpa [Sl.blk, ha] using hg
    rw [← this, hg']; simp

theorem spec.flat_Search {s t : Sl} {l : List Rw} {q : List Int} {k b : Int} {u : H} {K : Sl → Sl → Sl → Int → H → Prop} (hs : Rws u s l) (ht : Ints u t q)
    (hbad : srchErr l q k b ≠ 0 → K ⟨none, 0, 0⟩ ⟨none, 0, 0⟩ ⟨none, 0, 0⟩ (srchErr l q k b) u)
    (hok : Qok l q → 1 ≤ k → k ≤ 64 → 0 ≤ b → b ≤ 1000000 → ∀ sh ss sr u', u.le u' → AnsAt u u' sh ss sr (topk k.toNat ((l.take b.toNat).map (hitOf q))) (sortI ((l.take b.toNat).map (·.id))) (l.drop b.toNat) → K sh ss sr 0 u') :
    C.flat_Search s t k b u K := by
  have hn := hs.len
  apply vc.flat_Search
  refine spec.flat_asked hs ht ⟨fun hne => ?_, fun he => ?_⟩
  · have : srchErr l q k b = asked l q := if_pos hne
    rw [this] at hbad; exact hbad hne
  have hq := asked_ok.1 he
  have hlen := hq.rows.len
  have herr : k < 1 ∨ 64 < k ∨ b < 0 ∨ 1000000 < b → K ⟨none, 0, 0⟩ ⟨none, 0, 0⟩ ⟨none, 0, 0⟩ 1 u := fun h => by
    have : srchErr l q k b = 1 := by unfold srchErr; rw [if_neg (by simpa using he), if_pos h]
    rw [this] at hbad; exact hbad (by decide)
  intro K2 hK2
  have bad : (k < 1 ∨ 64 < k ∨ b < 0 ∨ 1000000 < b) → K2 true u := fun h => hK2 _ _ ⟨fun _ => herr h, fun hb => by cases hb⟩
  refine ⟨fun h1 => bad (.inl h1), fun h1 => ⟨fun h2 => bad (.inr (.inl h2)), fun h2 => ⟨fun h3 => bad (.inr (.inr (.inl h3))), fun h3 => hK2 _ _ ⟨fun hb => ?_, fun hb => ?_⟩⟩⟩⟩
  · have : 1000000 < b := by simpa using hb
    exact herr (.inr (.inr (.inr this)))
  have h4 : b ≤ 1000000 := by
    have : ¬ 1000000 < b := by simpa using hb
    omega
  clear bad herr hK2 K2
  have hcap : s.n ≤ s.c := Seg.cap hs.1
  have hmin : (if (s.n : Int) < b then (s.n : Int) else b) = ((min s.n b.toNat : Nat) : Int) := by split <;> omega
  have htake : l.take (min s.n b.toNat) = l.take b.toNat := by rw [hn, List.take_eq_take_iff]; omega
  have hdrop : l.drop (min s.n b.toNat) = l.drop b.toNat := by
    rw [hn]
    rcases Nat.le_total l.length b.toNat with h | h
    · rw [Nat.min_eq_left h, List.drop_eq_nil_of_le (Nat.le_refl _), List.drop_eq_nil_of_le h]
    · rw [Nat.min_eq_right h]
  rw [hmin]
  refine sem_slice (l := 0) (h := min s.n b.toNat) (m := s.c) tRows (.inl ⟨rfl, rfl⟩) (.inr rfl) (.inl ⟨rfl, rfl⟩) (Nat.zero_le _) (by omega) (Nat.le_refl _) hcap ?_
  have hs5 := hs.part (l := 0) (h := min s.n b.toNat) (m := s.c) (Nat.zero_le _) (by omega) (by omega) (Nat.le_refl _)
  rw [List.drop_zero, Nat.sub_zero, htake] at hs5
  generalize hp5 : s.part 0 (min s.n b.toNat) s.c 2 = s5 at hs5
  have hn5' : s5.n = min s.n b.toNat := by rw [← hp5]; rfl
  have hn5 := hs5.len
  have hqs : Qok (l.take b.toNat) q := hq.sub (List.take_sublist _ _)
  have htop : topErr (l.take b.toNat) q k = 0 := by unfold topErr; rw [if_neg (by simp [asked_ok.2 hqs]), if_neg (by omega)]
  refine spec.flat_TopK hs5 ht (fun h => absurd htop h) fun _ k1 k2 s7 u9 ho7 => ?_
  refine ⟨fun i s13 s14 s15 v => 0 ≤ i ∧ i ≤ (s5.n : Int) ∧ s13 = s7 ∧ s15 = ⟨none, 0, 0⟩ ∧ OwnF u9 v 3 1 s14 ((((l.take b.toNat).take i.toNat).map (·.id)).flatMap encI), fun i _ _ _ _ => s5.n - i.toNat,
    ⟨by omega, by omega, rfl, rfl, by simpa using OwnF.nil (H.le.refl u9) _ _⟩, ?_⟩
  rintro i s13 s14 s15 v ⟨i0, i1, e13, e15, ho⟩
  obtain rfl : s13 = s7 := e13
  obtain rfl : s15 = ⟨none, 0, 0⟩ := e15
  change OwnF u9 v _ 1 s14 _ at ho
  refine ⟨fun hi => ?_, fun hi => ?_⟩
  · obtain ⟨p, hp, r, hr, c0, c1, hv⟩ := (hs5.mono (ho7.le.trans ho.le)).at i0 hi
    have hn6 := ho.ints.len
    simp only [List.length_map, List.length_take] at hn6
    refine ⟨p, hp, ⟨i0, hi⟩, _, c0, _, c1, sem_push' tInts (build_int _) (by decide) rfl (by simp [Value.oneCell']) ho (by omega) (by omega) fun s' u' ho2 hn2 hel hbl _ => ⟨⟨by omega, by omega⟩, ⟨by omega, by omega, rfl, rfl, ?_⟩, by dsimp only; omega⟩⟩
    rw [show (i + 1).toNat = i.toNat + 1 by omega, take_ids hr, List.flatMap_append]
    exact ho2
  · have hi' : i.toNat = (l.take b.toNat).length := by omega
    rw [hi', List.take_length] at ho
    refine spec.slices_Sort___int_int_ ho (by simp; omega) fun u24 ho24 _ => ?_
    have hn5c : s5.n ≤ s.n := by omega
    refine sem_slice (l := s5.n) (h := s.n) (m := s.c) tRows (.inr rfl) (.inl ⟨rfl, rfl⟩) (.inl ⟨rfl, rfl⟩) hn5c hcap (Nat.le_refl _) hcap ?_
    have hle24 := ho7.le.trans ho24.le
    have hs25 := (hs.mono hle24).part (l := s5.n) (h := s.n) (m := s.c) hn5c (Nat.le_refl _) hcap (Nat.le_refl _)
    have hrest : (l.drop s5.n).take (s.n - s5.n) = l.drop b.toNat := by
      rw [List.take_of_length_le (by simp; omega), hn5', hdrop]
    rw [hrest] at hs25
    have hn25 := hs25.len
    generalize s.part s5.n s.n s.c 2 = s25 at hs25 hn25
    have hsblk : ∀ g, s13.blk = some g → s14.blk ≠ some g := fun g hg hg2 => own_known ho7 hg (ho24.fresh g hg2)
    refine ⟨fun hpos => ?_, fun hpos => hok hq k1 k2 (by omega) h4 s13 s14 _ u24 hle24 ⟨ho7.mono ho24.le, ho24.weaken ho7.le, hsblk, .inl ⟨List.eq_nil_of_length_eq_zero (by omega), rfl⟩⟩⟩
    have hne : l.drop b.toNat ≠ [] := fun e => by rw [e] at hn25; simp at hn25; omega
    have hdim := hq.rows.dim
    have hrr : Rok (l.drop b.toNat) (t.n : Int) := by rw [ht.len]; exact hq.rows.sub (List.drop_sublist _ _)
    refine spec.vec_Box hs25 hrr hne fun sl sh si u34 h1 h2 h3 n1 n2 n3 => ⟨fun h => absurd rfl h, fun _ => ?_⟩
    refine sem_build (build_region sl sh si 2 0 0) fun g hg => ?_
    have h5 := OwnF.make (k := 6) (H.le.refl u34) hg (cells := [Value.int .i64 2, .slice sl.a sl.n sl.c, .slice sh.a sh.n sh.c, .int .u64 0, .int .u64 0, .slice si.a si.n si.c].toArray) (e := 73) (n := 1) (by omega) (by simp)
    have hle3 := H.le_ins (u := u34) (b := g) (Obj.cells [Value.int .i64 2, .slice sl.a sl.n sl.c, .slice sh.a sh.n sh.c, .int .u64 0, .int .u64 0, .slice si.a si.n si.c].toArray 73 (0, 0)) hg
    have hall : u24.le (u34.ins g (Obj.cells [Value.int .i64 2, .slice sl.a sl.n sl.c, .slice sh.a sh.n sh.c, .int .u64 0, .int .u64 0, .slice si.a si.n si.c].toArray 73 (0, 0))) := h1.le.trans hle3
    refine hok hq k1 k2 (by omega) h4 s13 s14 _ _ (hle24.trans hall) ⟨(ho7.mono ho24.le).mono hall, (ho24.weaken ho7.le).mono hall, hsblk, .inr ⟨hne, rfl, sl, sh, si, h5.weaken (hle24.trans h1.le), (h1.weaken hle24).mono hle3, (h2.weaken hle24).mono hle3, (h3.weaken hle24).mono hle3, n1, n2, n3, ?_, ?_⟩⟩
    · intro x hx g' hg'
      have hfx : u24 g' = none ∧ u34 g' ≠ none := by
        simp only [List.mem_cons, List.not_mem_nil, or_false] at hx
        rcases hx with rfl | rfl | rfl
        · exact ⟨h1.fresh g' hg', own_known h1 hg'⟩
        · exact ⟨h2.fresh g' hg', own_known h2 hg'⟩
        · exact ⟨h3.fresh g' hg', own_known h3 hg'⟩
      refine ⟨fun e => own_known (ho7.mono ho24.le) e hfx.1, fun e => own_known ho24 e hfx.1, fun e => ?_⟩
      have : g = g' := by simpa [Sl.blk] using e
      rw [← this] at hfx
      exact hfx.2 hg
    · intro g' hg'
      have : g = g' := by simpa [Sl.blk] using hg'
      subst this
      exact ⟨fun e => own_known ((ho7.mono ho24.le).mono h1.le) e hg, fun e => own_known (ho24.mono h1.le) e hg⟩

end Go.Proofs.YtgfafpiinencpaaGreat
