/- The statements FlatNone, FlatWhole: their functions answer true. -/
import Derived.Test.YtgfafpiinencpaaVcPure2
namespace Go.Proofs.Ytgfafpiinencpaa

/-- What a search for the first k answers. -/
def TopRes (u u' : H) (l : List Rw) (q : List Int) (k : Int) (s : Sl) (e : Int) : Prop :=
  u.le u' ∧ ((e = topErr l q k ∧ e ≠ 0 ∧ s = ⟨none, 0, 0⟩) ∨ (e = 0 ∧ topErr l q k = 0 ∧ Qok l q ∧ 1 ≤ k ∧ k ≤ 64 ∧ OwnF u u' 43 3 s ((topk k.toNat (l.map (hitOf q))).flatMap encH)))

theorem topErr_ok {l : List Rw} {q : List Int} {k : Int} : topErr l q k = 0 ↔ Qok l q ∧ 1 ≤ k ∧ k ≤ 64 := by
  unfold topErr
  constructor
  · intro h
    split at h
    · rename_i hne; exact absurd h hne
    · rename_i he
      split at h
      · cases h
      · exact ⟨asked_ok.1 (by simpa using he), by omega, by omega⟩
  · rintro ⟨h1, h2, h3⟩
    rw [if_neg (by simp [asked_ok.2 h1]), if_neg (by omega)]

theorem spec.TopK {s t : Sl} {l : List Rw} {q : List Int} {k : Int} {u : H} {K : Sl → Int → H → Prop} (hs : Rws u s l) (ht : Ints u t q) (h : ∀ s' e u', TopRes u u' l q k s' e → K s' e u') : C.flat_TopK s t k u K :=
  spec.flat_TopK hs ht (fun hne => h _ _ u ⟨H.le.refl u, .inl ⟨rfl, hne, rfl⟩⟩) fun hq k1 k2 s' u' ho => h s' 0 u' ⟨ho.le, .inr ⟨rfl, topErr_ok.2 ⟨hq, k1, k2⟩, hq, k1, k2, ho⟩⟩

/-- The hits that it answers, an error or not. -/
theorem TopRes.hts {u u' : H} {l : List Rw} {q : List Int} {k : Int} {s : Sl} {e : Int} (h : TopRes u u' l q k s e) : ∃ L, Hts u' s L ∧ L.length ≤ 64 ∧ (e = 0 → L = topk k.toNat (l.map (hitOf q))) ∧ (e ≠ 0 → L = []) := by
  rcases h.2 with ⟨_, h1, rfl⟩ | ⟨h0, _, _, _, k2, ho⟩
  · exact ⟨[], (OwnF.nil (H.le.refl u') 0 3).own.seg, by simp, fun h => absurd h h1, fun _ => rfl⟩
  · exact ⟨_, ho.hts, by rw [topk_len]; omega, fun _ => rfl, fun h => absurd h0 h⟩

theorem Qok.once {l : List Rw} {q : List Int} (h : Qok l q) : Once (l.map (hitOf q)) := by
  unfold Once
  rw [List.map_map]
  exact h.rows.nodup

theorem spec.theodoliteref03_Dist {s t : Sl} {a b : List Int} {u : H} {K : Int → Int → Int → H → Prop} (hs : Ints u s a) (ht : Ints u t b) (ha : vok a) (h1 : 1 ≤ a.length) (hb : vok b) (hl : a.length = b.length)
    (h : K (hiW (sqTo a b a.length)) (loW (sqTo a b a.length)) 0 u) : C.theodoliteref03_Dist s t u K := by
  have va := ok_vcheck ha h1
  have vb : vcheck b a.length = 0 := by rw [hl]; exact ok_vcheck hb (by omega)
  apply vc.theodoliteref03_Dist
  rw [show (s.n : Int) = (a.length : Int) by rw [hs.len]]
  refine spec.theodoliteref03_Check hs ⟨fun hne => absurd va hne, fun _ => spec.theodoliteref03_Check ht ⟨fun hne => absurd vb hne, fun _ => spec.theodoliteref03_Far hs ht ha hb hl fun x y hx hy hw => ?_⟩⟩
  rw [← hw, hi_wv hy, lo_wv hy] at h
  exact h

theorem law.FlatNone {s t : Sl} {l : List Rw} {q : List Int} {k : Int} {u : H} {K : Bool → H → Prop} (hc : Come u s t l q) (h : ∀ u', u.le u' → K true u') : C.theodolitelaw05_FlatNone s t k u K := by
  have hn := hc.rows.len
  apply vc.theodolitelaw05_FlatNone
  refine spec.theodolitelaw05_big hc ⟨fun _ => h u (H.le.refl u), fun hb => by cases hb⟩ fun hl _ => ⟨fun hb => (by cases hb), fun _ => ?_⟩
  refine spec.TopK hc.rows hc.q fun s2 x3 u4 hr => ⟨fun hne => ?_, fun he => ?_⟩
  · refine spec.theodolitelaw05_awake fun u6 l6 => ⟨fun _ => ?_, fun hb => by cases hb⟩
    rcases hr.2 with ⟨_, _, rfl⟩ | ⟨h0, _⟩
    · exact h u6 (hr.1.trans l6)
    · exact absurd h0 hne
  · rcases hr.2 with ⟨_, h1, _⟩ | ⟨_, _, hq, k1, k2, ho⟩
    · exact absurd he h1
    have hh := ho.hts
    have hm := hh.len
    have honce := hq.once
    have honcek := honce.topk (k := k.toNat)
    have hdok : ∀ x ∈ topk k.toNat (l.map (hitOf q)), Dok x.2 := fun x hx => hits_dok hq x ((sortH_perm _).mem_iff.2 (topk_mem hx))
    have hsrt := topk_srt k.toNat (l.map (hitOf q))
    have htl := topk_len k.toNat (l.map (hitOf q))
    have hnone : ∀ x ∈ l.map (hitOf q), x ∉ topk k.toNat (l.map (hitOf q)) → ∀ y ∈ topk k.toNat (l.map (hitOf q)), hlt x y = false := fun x hx hn y hy => topk_none hx hn hy
    have hmem : ∀ x ∈ topk k.toNat (l.map (hitOf q)), x ∈ l.map (hitOf q) := fun x hx => topk_mem hx
    rw [List.length_map] at htl
    have hdim := hq.rows.dim
    generalize hA : topk k.toNat (l.map (hitOf q)) = A at hh hm honcek hdok hsrt htl hnone hmem
    have hAl : A.length ≤ 64 := by omega
    refine ⟨fun _ i v => v = u4 ∧ 0 ≤ i ∧ i ≤ (s.n : Int), fun _ i _ => s.n - i.toNat, ⟨rfl, by omega, by omega⟩, ?_⟩
    rintro b9 i v ⟨rfl, i0, i1⟩
    have hc4 := hc.mono hr.1
    refine ⟨fun hi => ?_, fun hi => ?_⟩
    · intro K12 hK12
      have next : ∀ b, K12 b v := fun b => hK12 b v ⟨⟨by omega, by omega⟩, ⟨rfl, by omega, by omega⟩, by dsimp only; omega⟩
      clear hK12
      obtain ⟨p, hp, r, hr', c0, c1, hv⟩ := hc4.rows.at i0 hi
      have hrm := List.mem_of_getElem? hr'
      obtain ⟨hvl, hvok⟩ := hq.rows.v r hrm
      have hhm : hitOf q r ∈ l.map (hitOf q) := List.mem_map.2 ⟨r, hrm, rfl⟩
      have hrd := hq.hit hrm
      refine ⟨p, hp, ⟨i0, hi⟩, _, c1, spec.theodoliteref03_Dist hv hc4.q hvok (by omega) hq.vq (by omega) ⟨p, hp, ⟨i0, hi⟩, _, c0, H.le.refl _, ?_⟩⟩
      have le0 := H.le.refl v
      refine ⟨fun x b j w => w = v ∧ 0 ≤ j ∧ j ≤ (s2.n : Int) ∧ x = (times r.id (A.take j.toNat) : Nat), fun _ _ j _ => s2.n - j.toNat, ⟨rfl, by omega, by omega, by simp [times]⟩, ?_⟩
      rintro x b j w ⟨rfl, j0, j1, rfl⟩
      refine ⟨fun hj => ?_, fun hj => ?_⟩
      · obtain ⟨pa, hpa, y, hy, d0, d1, d2⟩ := hh.at j0 hj
        have hym := List.mem_of_getElem? hy
        have hstep := times_step (id := r.id) hy
        have htl2 : (times r.id (A.take j.toNat)) ≤ 64 := Nat.le_trans List.countP_le_length (by simp; omega)
        refine ⟨pa, hpa, ⟨j0, hj⟩, _, d0, fun heq => ⟨⟨by omega, by omega⟩, pa, hpa, ⟨j0, hj⟩, _, d0, _, d1, _, d2, fun hne => ?_, fun _ => ⟨⟨by omega, by omega⟩, ⟨rfl, by omega, by omega, ?_⟩, by dsimp only; omega⟩⟩, fun hne => ⟨⟨by omega, by omega⟩, ⟨rfl, by omega, by omega, ?_⟩, by dsimp only; omega⟩⟩
        · exact absurd (hit_eq.2 (honce.eq (hmem y hym) hhm heq)) hne
        · rw [show (j + 1).toNat = j.toNat + 1 by omega, hstep, if_pos heq]; simp
        · rw [show (j + 1).toNat = j.toNat + 1 by omega, hstep, if_neg hne]; simp
      · have hjA : j.toNat = A.length := by omega
        rw [hjA, List.take_length]
        have ht1 := times_once honcek r.id
        refine ⟨fun hgt => by omega, fun _ => ⟨fun h0 => ⟨fun hpos => ?_, fun _ => ?_⟩, fun _ => ?_⟩⟩
        · have hx0 : times r.id A = 0 := by omega
          have hnot : hitOf q r ∉ A := fun hm' => times_zero hx0 _ hm' rfl
          obtain ⟨pa, hpa, y, hy, d0, d1, d2⟩ := hh.at (x := (s2.n : Int) - 1) (by omega) (by omega)
          have hym := List.mem_of_getElem? hy
          refine ⟨⟨by omega, by omega⟩, pa, hpa, ⟨by omega, by omega⟩, _, d0, _, d1, _, d2, spec.theodoliteref05_Before (a := hitOf q r) (b := y) hrd (hdok y hym) ⟨fun hb => ?_, fun _ => next b⟩⟩
          rw [hnone _ hhm hnot y hym] at hb; cases hb
        · exact ⟨le0, le0, next b⟩
        · exact ⟨le0, ⟨le0, le0, le0, next b⟩, le0, ⟨le0, le0, next b⟩, le0, le0, next b⟩
    · refine ⟨fun _ j w => w = v ∧ 1 ≤ j, fun _ j _ => s2.n - j.toNat, ⟨rfl, by omega⟩, ?_⟩
      rintro b j w ⟨rfl, j1⟩
      refine ⟨fun hj => ?_, fun hj => ?_⟩
      · obtain ⟨pa, hpa, y, hy, d0, d1, d2⟩ := hh.at (x := j - 1) (by omega) (by omega)
        obtain ⟨pb, hpb, z, hz, e0, e1, e2⟩ := hh.at (x := j) (by omega) hj
        refine ⟨⟨by omega, by omega⟩, pa, hpa, ⟨by omega, by omega⟩, pb, hpb, ⟨by omega, hj⟩, _, d0, _, d1, _, d2, _, e0, _, e1, _, e2, spec.theodoliteref05_Before (hdok y (List.mem_of_getElem? hy)) (hdok z (List.mem_of_getElem? hz)) ⟨fun hb => ?_, fun _ => ⟨⟨by omega, by omega⟩, ⟨rfl, by omega⟩, by dsimp only; omega⟩⟩⟩
        obtain ⟨hy1, hy2⟩ := List.getElem?_eq_some_iff.1 hy
        obtain ⟨hz1, hz2⟩ := List.getElem?_eq_some_iff.1 hz
        have := srt_lt hsrt honcek hy1 hz1 (by omega)
        rw [hy2, hz2] at this
        exact absurd this hb
      · refine spec.theodolitelaw05_awake fun u57 l57 => ⟨fun _ => ?_, fun hb => by cases hb⟩
        have hlen : ((s2.n : Int) = if (s.n : Int) < k then (s.n : Int) else k) := by split <;> omega
        rw [decide_eq_true hlen]
        exact h u57 (hr.1.trans l57)

/-- What a search answers. -/
theorem spec.Search {s t : Sl} {l : List Rw} {q : List Int} {k b : Int} {u : H} {K : Sl → Sl → Sl → Int → H → Prop} (hs : Rws u s l) (ht : Ints u t q) (hb0 : 0 ≤ b) (hb1 : b ≤ 1000000) (hbl : (l.length : Int) ≤ b)
    (h : ∀ sh ss sr e u', u.le u' → (e = topErr l q k ∧ e ≠ 0 ∧ sh = ⟨none, 0, 0⟩ ∨ e = 0 ∧ topErr l q k = 0 ∧ Hts u' sh (topk k.toNat (l.map (hitOf q)))) → K sh ss sr e u') : C.flat_Search s t k b u K := by
  have he : srchErr l q k b = topErr l q k := by
    unfold srchErr topErr
    by_cases h1 : asked l q ≠ 0
    · rw [if_pos h1, if_pos h1]
    · rw [if_neg h1, if_neg h1]
      by_cases h2 : k < 1 ∨ 64 < k
      · rw [if_pos h2, if_pos (by omega)]
      · rw [if_neg h2, if_neg (by omega)]
  refine spec.flat_Search hs ht (fun hne => h _ _ _ _ u (H.le.refl u) (.inl ⟨he, hne, rfl⟩)) fun hq k1 k2 _ _ sh ss sr u' hle an => h sh ss sr 0 u' hle (.inr ⟨rfl, topErr_ok.2 ⟨hq, k1, k2⟩, ?_⟩)
  have := an.h.hts
  rw [List.take_of_length_le (by omega)] at this
  exact this

theorem law.FlatWhole {s t : Sl} {l : List Rw} {q : List Int} {k m : Int} {u : H} {K : Bool → H → Prop} (hc : Come u s t l q) (h : ∀ u', u.le u' → K true u') : C.theodolitelaw05_FlatWhole s t k m u K := by
  have hn := hc.rows.len
  apply vc.theodolitelaw05_FlatWhole
  intro K0 hK0
  refine spec.theodolitelaw05_big hc ⟨fun _ => h u (H.le.refl u), fun hb => by cases hb⟩ fun hl _ => ⟨fun hb => (by cases hb), fun _ => ⟨fun _ => h u (H.le.refl u), fun m0 => ⟨fun _ => h u (H.le.refl u), fun m1 => hK0 _ _ ?_⟩⟩⟩
  clear hK0 K0
  refine spec.TopK hc.rows hc.q fun s3 x4 u5 hr => ⟨⟨by omega, by omega⟩, ?_⟩
  have hc5 := hc.mono hr.1
  refine spec.Search hc5.rows hc5.q (by omega) (by omega) (by omega) fun s6 s7 s8 x9 u10 l10 hs => ?_
  have hle10 := hr.1.trans l10
  have hsame : x4 = x9 := by
    rcases hr.2 with ⟨h1, h2, _⟩ | ⟨h1, h2, _⟩ <;> rcases hs with ⟨h3, h4, _⟩ | ⟨h3, h4, _⟩ <;> omega
  refine ⟨fun hne => absurd hsame hne, fun _ => ?_⟩
  intro K11 hK11
  have true' : s3.n = 0 → s6.n = 0 → K11 true u10 := fun h3 h6 => hK11 _ _ ⟨fun _ => spec.theodolitelaw05_awake fun u15 l15 => ⟨fun _ => ⟨fun _ => by
    rw [h6]; exact h u15 (hle10.trans l15), fun hne => absurd (by rw [h3]; rfl) hne⟩, fun hb => (by cases hb)⟩, fun hb => by cases hb⟩
  refine ⟨fun hne => ?_, fun he => ?_⟩
  · refine true' ?_ ?_
    · rcases hr.2 with ⟨_, _, rfl⟩ | ⟨h1, _⟩
      · rfl
      · exact absurd h1 hne
    · rcases hs with ⟨_, _, rfl⟩ | ⟨h1, _⟩
      · rfl
      · exact absurd h1 (by rw [← hsame]; exact hne)
  · rcases hr.2 with ⟨_, h1, _⟩ | ⟨_, herr, hq, k1, k2, ho⟩
    · exact absurd he h1
    rcases hs with ⟨_, h4, _⟩ | ⟨_, _, hs6⟩
    · exact absurd (hsame ▸ he) h4
    have hA := ho.hts
    have hAn := hA.len
    have h6n := hs6.len
    have htl := topk_len k.toNat (l.map (hitOf q))
    by_cases h0 : s3.n = 0
    · have := true' h0 (by omega)
      rw [h0]; exact this
    have hd : decide ((s3.n : Int) = 0) = false := by simpa using h0
    rw [hd]
    refine hK11 _ _ ⟨fun hb => (by cases hb), fun _ => ⟨⟨by omega, by omega⟩, ?_⟩⟩
    have hA10 := hA.mono l10
    obtain ⟨p, hp, z, hz, d0, d1, d2⟩ := hA10.at (x := (s3.n : Int) - 1) (by omega) (by omega)
    have hzm := List.mem_of_getElem? hz
    have hzd : Dok z.2 := hits_dok hq z ((sortH_perm _).mem_iff.2 (topk_mem hzm))
    have hsrt := topk_srt k.toNat (l.map (hitOf q))
    have hR : ∀ x ∈ topk k.toNat (l.map (hitOf q)), x.2 ≤ z.2 := by
      intro x hx
      obtain ⟨i, hi, rfl⟩ := List.mem_iff_getElem.1 hx
      obtain ⟨hz1, hz2⟩ := List.getElem?_eq_some_iff.1 hz
      rcases Nat.lt_or_ge i ((s3.n : Int) - 1).toNat with hi' | hi'
      · have := List.pairwise_iff_getElem.1 hsrt i _ hi hz1 hi'
        rw [hz2, hlt_not] at this
        omega
      · have : i = ((s3.n : Int) - 1).toNat := by omega
        subst this
        rw [hz2]
        exact Int.le_refl _
    refine ⟨p, hp, ⟨by omega, by omega⟩, _, d1, _, by rw [Addr.add_add']; exact d2, ?_⟩
    have hc10 := hc.mono hle10
    refine spec.flat_Range hc10.rows hc10.q (loU _) (fun hne => absurd (asked_ok.2 hq) hne) fun _ s19 u21 o19 => ?_
    rw [wv_hl] at o19
    obtain ⟨w1, w2⟩ := within_topk hR
    have hW := o19.hts
    have hWn := hW.len
    have hWc : s19.n ≤ s19.c := Seg.cap hW
    have hle21 := hle10.trans o19.le
    intro K22 hK22
    refine ⟨fun hne => absurd rfl hne, fun _ => ⟨fun hlt' => by omega, fun _ => ?_⟩⟩
    refine sem_slice (l := 0) (h := s3.n) (m := s19.c) tHits (.inl ⟨rfl, rfl⟩) (.inr rfl) (.inl ⟨rfl, rfl⟩) (Nat.zero_le _) (by omega) (Nat.le_refl _) hWc ?_
    have hp40 := hW.part (l := 0) (h := s3.n) (m := s19.c) (Nat.zero_le _) (by omega) (by omega) (Nat.le_refl _)
    rw [List.drop_zero, Nat.sub_zero, hAn, w2] at hp40
    rw [← hAn] at hp40
    have hA21 := hA10.mono o19.le
    refine spec.theodolitekeep_Hits hp40 hA21 ?_
    rw [decide_eq_true rfl]
    refine ⟨fun hne => absurd rfl hne, fun _ => spec.theodolitekeep_Hits (hs6.mono o19.le) hA21 ?_⟩
    rw [decide_eq_true rfl]
    refine ⟨fun hne => absurd rfl hne, fun _ => hK22 _ _ ?_⟩
    have hrest : ∀ x ∈ within z.2 (l.map (hitOf q)), Dok x.2 := by
      intro x hx
      rw [within_eq] at hx
      exact hits_dok hq x (List.mem_filter.1 hx).1
    have hlen512 : (within z.2 (l.map (hitOf q))).length ≤ 2000 := by
      have : (within z.2 (l.map (hitOf q))).length ≤ (l.map (hitOf q)).length := by
        unfold within
        rw [sortH_len]; exact List.length_filter_le _ _
      rw [List.length_map] at this
      omega
    refine ⟨fun _ i v => v = u21 ∧ (s3.n : Int) ≤ i, fun _ i _ => s19.n - i.toNat, ⟨rfl, Int.le_refl _⟩, ?_⟩
    rintro b i v ⟨rfl, i0⟩
    refine ⟨fun hi => ?_, fun hi => spec.theodolitelaw05_awake fun u39 l39 => h u39 (hle21.trans l39)⟩
    obtain ⟨pc, hpc, x, hx, e0, e1, e2⟩ := hW.at (x := i) (by omega) hi
    obtain ⟨pa, hpa, z', hz', f0, f1, f2⟩ := hA21.at (x := (s3.n : Int) - 1) (by omega) (by omega)
    rw [hz] at hz'
    cases hz'
    refine ⟨pc, hpc, ⟨by omega, hi⟩, ⟨by omega, by omega⟩, pa, hpa, ⟨by omega, by omega⟩, _, e1, _, by rw [Addr.add_add']; exact e2, _, f1, _, by rw [Addr.add_add']; exact f2,
      spec.theodoliteref01_Less (hiU (hrest x (List.mem_of_getElem? hx))) (loU _) (hiU hzd) (loU _) ⟨fun hb => ?_, fun _ => ⟨⟨by omega, by omega⟩, ⟨rfl, by omega⟩, by dsimp only; omega⟩⟩⟩
    rw [wv_hl, wv_hl] at hb
    exact absurd (by simpa using hb) (within_after hR (by omega) hx hzm)

end Go.Proofs.Ytgfafpiinencpaa
