/- What the statements of layer 5 share: what is too much; the document's Range; the document's examples. -/
import Derived.Test.YtgfafpiinencpaaGreatVcSearch
namespace Go.Proofs.YtgfafpiinencpaaGreat

theorem spec.theodolitekeep_Vectors {s : Sl} {l : List Rw} {m : Int} {u : H} {K : Int → H → Prop} (hs : Rws u s l) (hb : ∀ r ∈ l, r.v.length ≤ 17592186044416) (hl : s.n ≤ 17592186044416) (hm : m ≤ 1000000) (h : ∀ x, K x u) : C.theodolitekeep_Vectors s m u K := by
  have hn := hs.len
  apply vc.theodolitekeep_Vectors
  refine ⟨fun x i v => v = u ∧ 0 ≤ i ∧ i ≤ (s.n : Int) ∧ 0 ≤ x, fun _ i _ => s.n - i.toNat, ⟨rfl, by omega, by omega, by omega⟩, ?_⟩
  rintro x i v ⟨rfl, i0, i1, x0⟩
  intro K5 hK5
  refine ⟨fun hi => ⟨fun hx => hK5 _ ?_, fun _ => h x⟩, fun _ => h x⟩
  obtain ⟨p, hp, r, hr, c0, c1, hv⟩ := hs.at i0 hi
  have hrm := List.mem_of_getElem? hr
  have := hb r hrm
  have hvn := hv.len
  exact ⟨p, hp, ⟨i0, hi⟩, _, c1, ⟨by omega, by omega⟩, ⟨by omega, by omega⟩, ⟨rfl, by omega, by omega, by omega⟩, by dsimp only; omega⟩

/-- Rows and a vector as they come in. -/
structure Come (u : H) (s t : Sl) (l : List Rw) (q : List Int) : Prop where
  rows : Rws u s l
  q : Ints u t q
  small : ∀ r ∈ l, r.v.length ≤ 17592186044416
  sn : s.n ≤ 17592186044416

theorem Come.mono {u u' : H} {s t : Sl} {l : List Rw} {q : List Int} (h : Come u s t l q) (k : u.le u') : Come u' s t l q := ⟨h.rows.mono k, h.q.mono k, h.small, h.sn⟩

theorem spec.theodolitelaw05_big {s t : Sl} {l : List Rw} {q : List Int} {u : H} {K : Bool → H → Prop} (hc : Come u s t l q) (h1 : K true u) (h2 : l.length ≤ 2000 → q.length ≤ 65536 → K false u) : C.theodolitelaw05_big s t u K := by
  have hn := hc.rows.len
  have hm := hc.q.len
  apply vc.theodolitelaw05_big
  refine spec.theodolitekeep_Vectors hc.rows hc.small hc.sn (by omega) fun x => ⟨fun _ => h1, fun _ => ⟨fun _ => h1, fun hl => ?_⟩⟩
  by_cases hq : (65536 : Int) < (t.n : Int)
  · have : decide ((65536 : Int) < (t.n : Int)) = true := by simpa using hq
    rw [this]; exact h1
  · have : decide ((65536 : Int) < (t.n : Int)) = false := by simpa using hq
    rw [this]; exact h2 (by omega) (by omega)

/-! ### within a radius -/

theorem srt_filter {l : List Hit} (h : Srt l) (p : Hit → Bool) : Srt (l.filter p) := List.Pairwise.sublist List.filter_sublist h

theorem within_eq (R : Int) (l : List Hit) : within R l = (sortH l).filter fun h => decide (h.2 ≤ R) := by
  symm
  exact sortH_of ((sortH_perm l).filter _) (srt_filter (sortH_srt l) _)

/-- In their order those within a radius are the first. -/
theorem filter_first {R : Int} : ∀ {l : List Hit}, Srt l → ∀ {n : Nat}, (∀ h ∈ l.take n, h.2 ≤ R) → (∀ h, l[n]? = some h → R < h.2) → l.filter (fun h => decide (h.2 ≤ R)) = l.take n := by
  intro l hs n h1 h2
  have f1 : (l.take n).filter (fun h => decide (h.2 ≤ R)) = l.take n := List.filter_eq_self.2 fun h hh => by simpa using h1 h hh
  have f2 : (l.drop n).filter (fun h => decide (h.2 ≤ R)) = [] := by
    refine List.filter_eq_nil_iff.2 fun h hh => ?_
    have hn : n < l.length := by
      rcases Nat.lt_or_ge n l.length with k | k
      · exact k
      · rw [List.drop_eq_nil_of_le k] at hh; cases hh
    have h3 := h2 _ (List.getElem?_eq_getElem hn)
    have hd : l.drop n = l[n] :: l.drop (n + 1) := List.drop_eq_getElem_cons hn
    have hsd : Srt (l.drop n) := List.Pairwise.sublist (List.drop_sublist _ _) hs
    rw [hd] at hh hsd
    rcases List.mem_cons.1 hh with rfl | hh
    · simpa using h3
    · have := (List.pairwise_cons.1 hsd).1 h hh
      rw [hlt_not] at this
      simp only [decide_eq_true_eq]
      omega
  calc l.filter (fun h => decide (h.2 ≤ R)) = (l.take n ++ l.drop n).filter (fun h => decide (h.2 ≤ R)) := by rw [List.take_append_drop]
    _ = l.take n := by rw [List.filter_append, f1, f2, List.append_nil]

theorem Hts.part {u : H} {s : Sl} {L : List Hit} (hs : Hts u s L) {l h m : Nat} (h1 : l ≤ h) (h2 : h ≤ s.n) (h3 : h ≤ m) (h4 : m ≤ s.c) : Hts u (s.part l h m 3) ((L.drop l).take (h - l)) := by
  have := Seg.part hs h1 h2 h3 h4
  rw [flat_drop encH_len, flat_take encH_len] at this
  exact this

theorem hits_dok {l : List Rw} {q : List Int} (h : Qok l q) : ∀ x ∈ sortH (l.map (hitOf q)), Dok x.2 := by
  intro x hx
  obtain ⟨r, hr, rfl⟩ := List.mem_map.1 ((sortH_perm _).mem_iff.1 hx)
  exact h.hit hr

/-! ### the document's examples -/

theorem build_rows4 (a b c d : Sl) : buildOf Tryz.prog 22 4 #[(0, .agg #[.int .i64 1, .slice a.a a.n a.c]), (1, .agg #[.int .i64 2, .slice b.a b.n b.c]), (2, .agg #[.int .i64 3, .slice c.a c.n c.c]), (3, .agg #[.int .i64 4, .slice d.a d.n d.c])] =
    some (49, [.int .i64 1, .slice a.a a.n a.c, .int .i64 2, .slice b.a b.n b.c, .int .i64 3, .slice c.a c.n c.c, .int .i64 4, .slice d.a d.n d.c]) := by kernel_rfl

theorem spec.theodolitelaw05_rows {u : H} {K : Sl → H → Prop} (h : ∀ s u' a b c d, u.le u' → Rws u' s [⟨1, a, [0, 0]⟩, ⟨2, b, [3, 4]⟩, ⟨3, c, [0, 1]⟩, ⟨4, d, [3, 4]⟩] → K s u') : C.theodolitelaw05_rows u K := by
  apply vc.theodolitelaw05_rows
  refine sem_build (build_ints2 _ _) fun g1 h1 => sem_build (build_ints2 _ _) fun g2 h2 => sem_build (build_ints2 _ _) fun g3 h3 => sem_build (build_ints2 _ _) fun g4 h4 => sem_build (build_rows4 _ _ _ _) fun g5 h5 => ?_
  have i1 := ints_made (H.le.refl u) h1 [0, 0] 3 (by simp)
  have i2 := ints_made (H.le.refl _) h2 [3, 4] 3 (by simp)
  have i3 := ints_made (H.le.refl _) h3 [0, 1] 3 (by simp)
  have i4 := ints_made (H.le.refl _) h4 [3, 4] 3 (by simp)
  have l1 := H.le_ins (u := u) (b := g1) (.cells [Value.int .i64 0, .int .i64 0].toArray 3 (0, 0)) h1
  have l2 := H.le_ins (b := g2) (.cells [Value.int .i64 3, .int .i64 4].toArray 3 (0, 0)) h2
  have l3 := H.le_ins (b := g3) (.cells [Value.int .i64 0, .int .i64 1].toArray 3 (0, 0)) h3
  have l4 := H.le_ins (b := g4) (.cells [Value.int .i64 3, .int .i64 4].toArray 3 (0, 0)) h4
  have m := OwnF.make (k := 2) (H.le.refl _) h5 (cells := [Value.int .i64 1, .slice (some ⟨g1, 0, none⟩) 2 2, .int .i64 2, .slice (some ⟨g2, 0, none⟩) 2 2, .int .i64 3, .slice (some ⟨g3, 0, none⟩) 2 2, .int .i64 4, .slice (some ⟨g4, 0, none⟩) 2 2].toArray) (e := 49) (n := 4) (by omega) rfl
  refine h _ _ ⟨some ⟨g1, 0, none⟩, 2, 2⟩ ⟨some ⟨g2, 0, none⟩, 2, 2⟩ ⟨some ⟨g3, 0, none⟩, 2, 2⟩ ⟨some ⟨g4, 0, none⟩, 2, 2⟩ ?_ ⟨m.own.seg, ?_⟩
  · exact (((l1.trans l2).trans l3).trans l4).trans m.le
  · intro r hr
    simp only [List.mem_cons, List.not_mem_nil, or_false] at hr
    rcases hr with rfl | rfl | rfl | rfl
    · exact i1.mono (((l2.trans l3).trans l4).trans m.le)
    · exact i2.mono ((l3.trans l4).trans m.le)
    · exact i3.mono (l4.trans m.le)
    · exact i4.mono m.le

theorem build_hits3 (a b c d : Int) : buildOf Tryz.prog 29 3 #[(0, .agg #[.int .i64 1, .int .u64 0, .int .u64 0]), (1, .agg #[.int .i64 3, .int .u64 a, .int .u64 b]), (2, .agg #[.int .i64 2, .int .u64 c, .int .u64 d])] =
    some (62, [.int .i64 1, .int .u64 0, .int .u64 0, .int .i64 3, .int .u64 a, .int .u64 b, .int .i64 2, .int .u64 c, .int .u64 d]) := by kernel_rfl

def exRows (a b c d : Sl) : List Rw := [⟨1, a, [0, 0]⟩, ⟨2, b, [3, 4]⟩, ⟨3, c, [0, 1]⟩, ⟨4, d, [3, 4]⟩]

theorem ex_ok (a b c d : Sl) : Qok (exRows a b c d) [0, 0] := asked_ok.1 (by kernel_rfl)

theorem ex_top (a b c d : Sl) : topk 3 ((exRows a b c d).map (hitOf [0, 0])) = [(1, 0), (3, 1), (2, 25)] := by kernel_rfl
theorem ex_within (a b c d : Sl) : within (wv 0 1) ((exRows a b c d).map (hitOf [0, 0])) = [(1, 0), (3, 1)] := by kernel_rfl
theorem ex_search (a b c d : Sl) : topk 1 (((exRows a b c d).take 4).map (hitOf [0, 0])) = [(1, 0)] := by kernel_rfl
theorem ex_err (a b c d : Sl) : topErr (exRows a b c d) [0, 0] 0 = 1 := by kernel_rfl

theorem spec.theodolitelaw05_lo {x : Int} {u : H} {K : Int → Int → H → Prop} (h : K 0 x u) : C.theodolitelaw05_lo x u K := by
  apply vc.theodolitelaw05_lo
  exact h

theorem spec.theodolitelaw05_awake {u : H} {K : Bool → H → Prop} (h : ∀ u', u.le u' → K true u') : C.theodolitelaw05_awake u K := by
  apply vc.theodolitelaw05_awake
  have q0 : ∀ {v : H} {g : Nat} (hg : v g = none), Ints (v.ins g (.cells [Value.int .i64 0, .int .i64 0].toArray 3 (0, 0))) ⟨some ⟨g, 0, none⟩, 2, 2⟩ [0, 0] := fun {v g} hg => ints_made (H.le.refl v) hg [0, 0] 3 (by simp)
  -- TopK
  refine spec.theodolitelaw05_rows fun s0 u1 a b c d l1 r1 => sem_build (build_ints2 0 0) fun g1 h1 => ?_
  have m1 := H.le_ins (u := u1) (b := g1) (.cells [Value.int .i64 0, .int .i64 0].toArray 3 (0, 0)) h1
  refine spec.flat_TopK (l := exRows a b c d) (q := [0, 0]) (r1.mono m1) (q0 h1) (fun hne => absurd (by kernel_rfl) hne) fun _ _ _ s4 u6 o4 => ?_
  have e4 : (topk (Int.toNat 3) ((exRows a b c d).map (hitOf [0, 0]))) = [(1, 0), (3, 1), (2, 25)] := ex_top a b c d
  rw [e4] at o4
  have k6 := (l1.trans m1).trans o4.le
  clear e4
  -- Range
  refine spec.theodolitelaw05_rows fun s7 u8 a b c d l2 r2 => sem_build (build_ints2 0 0) fun g2 h2 => spec.theodolitelaw05_lo ?_
  have m2 := H.le_ins (u := u8) (b := g2) (.cells [Value.int .i64 0, .int .i64 0].toArray 3 (0, 0)) h2
  refine spec.flat_Range (l := exRows a b c d) (q := [0, 0]) (r2.mono m2) (q0 h2) ⟨by omega, by omega⟩ (fun hne => absurd (by kernel_rfl) hne) fun _ s14 u16 o14 => ?_
  rw [ex_within] at o14
  have k16 := (l2.trans m2).trans o14.le
  -- Search
  refine spec.theodolitelaw05_rows fun s17 u18 a b c d l3 r3 => sem_build (build_ints2 0 0) fun g3 h3 => ?_
  have m3 := H.le_ins (u := u18) (b := g3) (.cells [Value.int .i64 0, .int .i64 0].toArray 3 (0, 0)) h3
  refine spec.flat_Search (l := exRows a b c d) (q := [0, 0]) (r3.mono m3) (q0 h3) (fun hne => absurd (by kernel_rfl) hne) fun _ _ _ _ _ s21 s22 s23 u25 l4 an => ?_
  have o21 := an.h
  have e21 : topk (Int.toNat 1) (((exRows a b c d).take (Int.toNat 4)).map (hitOf [0, 0])) = [(1, 0)] := ex_search a b c d
  rw [e21] at o21
  have k25 := (l3.trans m3).trans l4
  clear e21 an
  -- TopK of none
  refine spec.theodolitelaw05_rows fun s26 u27 a b c d l5 r5 => sem_build (build_ints2 0 0) fun g4 h4 => ?_
  have m4 := H.le_ins (u := u27) (b := g4) (.cells [Value.int .i64 0, .int .i64 0].toArray 3 (0, 0)) h4
  refine spec.flat_TopK (l := exRows a b c d) (q := [0, 0]) (r5.mono m4) (q0 h4) (fun _ => ?_) (fun _ h1 => absurd h1 (by decide))
  rw [ex_err]
  have k29 := l5.trans m4
  generalize hu29 : u27.ins g4 (.cells [Value.int .i64 0, .int .i64 0].toArray 3 (0, 0)) = u29 at k29 m4 ⊢
  have t4 := o4.hts.mono (k16.trans (k25.trans k29))
  have t14 := o14.hts.mono (k25.trans k29)
  have t21 := o21.hts.mono k29
  have hall := k6.trans (k16.trans (k25.trans k29))
  intro K33 hK33
  refine ⟨fun _ => ⟨fun _ => ⟨fun _ => ?_, fun hne => absurd rfl hne⟩, fun hne => absurd rfl hne⟩, fun hne => absurd rfl hne⟩
  have hd : decide ((1 : Int) = 1) = true := by decide
  refine (show K33 true u29 → _ from fun h => by rw [hd]; exact h) (hK33 true u29 ⟨fun _ => ?_, fun hb => by cases hb⟩)
  refine spec.theodolitelaw05_lo (spec.theodolitelaw05_lo (sem_build (build_hits3 0 1 0 25) fun g5 h5 => ?_))
  have m5 := OwnF.make (k := 3) (H.le.refl _) h5 (cells := [Value.int .i64 1, .int .u64 0, .int .u64 0, .int .i64 3, .int .u64 0, .int .u64 1, .int .i64 2, .int .u64 0, .int .u64 25].toArray) (e := 62) (n := 3) (by omega) rfl
  have t42 : Hts _ _ [((1 : Int), (0 : Int)), (3, 1), (2, 25)] := m5.own.seg
  have hall2 := hall.trans m5.le
  refine spec.theodolitekeep_Hits (t4.mono m5.le) t42 ⟨fun _ => ?_, fun hb => absurd hb (by decide)⟩
  have n4 := t4.len
  have c4 : s4.n ≤ s4.c := Seg.cap t4
  simp only [List.length_cons, List.length_nil, Nat.zero_add, Nat.reduceAdd] at n4
  refine sem_slice (l := 0) (h := 2) (m := s4.c) tHits (.inl ⟨rfl, rfl⟩) (.inr rfl) (.inl ⟨rfl, rfl⟩) (by omega) (by omega) (Nat.le_refl _) c4 ?_
  have p2 := (t4.mono m5.le).part (l := 0) (h := 2) (m := s4.c) (by omega) (by omega) (by omega) (Nat.le_refl _)
  have p1 := (t4.mono m5.le).part (l := 0) (h := 1) (m := s4.c) (by omega) (by omega) (by omega) (Nat.le_refl _)
  refine spec.theodolitekeep_Hits (t14.mono m5.le) p2 ⟨fun _ => ?_, fun hb => absurd hb (by decide)⟩
  have last : SemT Tryz.prog (Instr.sliceAt 29 (.slice s4.a s4.n s4.c) none (some (.int .i64 1)) none) [.one .slice] (u29.ins g5 (.cells [Value.int .i64 1, .int .u64 0, .int .u64 0, .int .i64 3, .int .u64 0, .int .u64 1, .int .i64 2, .int .u64 0, .int .u64 25].toArray 62 (0, 0))) fun (s50 : Sl) u51 => C.theodolitekeep_Hits s21 s50 u51 fun b52 u53 => K b52 u53 :=
    sem_slice (l := 0) (h := 1) (m := s4.c) tHits (.inl ⟨rfl, rfl⟩) (.inr rfl) (.inl ⟨rfl, rfl⟩) (by omega) (by omega) (Nat.le_refl _) c4 (spec.theodolitekeep_Hits (t21.mono m5.le) p1 (h _ hall2))
  exact ⟨last, last⟩

end Go.Proofs.YtgfafpiinencpaaGreat
