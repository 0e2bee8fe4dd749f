/- The statement FlatTopK: its function answers true. -/
import Derived.Test.YtgfafpiinencpaaGreatVcLend
import Derived.Test.YtgfafpiinencpaaGreatVcPure2
namespace Go.Proofs.YtgfafpiinencpaaGreat

theorem spec.theodolitekeep_Vectors' {s : Sl} {l : List Rw} {m : Int} {u : H} {K : Int → H → Prop} (hs : Rws u s l) (hb : ∀ r ∈ l, r.v.length ≤ 17592186044416) (hl : s.n ≤ 17592186044416) (hm : m ≤ 1000000) (h : ∀ x, (x ≤ m → ∀ r ∈ l, (r.v.length : Int) ≤ m) → K x u) : C.theodolitekeep_Vectors s m u K := by
  have hn := hs.len
  apply vc.theodolitekeep_Vectors
  refine ⟨fun x i v => v = u ∧ 0 ≤ i ∧ i ≤ (s.n : Int) ∧ 0 ≤ x ∧ ∀ r ∈ l.take i.toNat, (r.v.length : Int) ≤ x, fun _ i _ => s.n - i.toNat, ⟨rfl, by omega, by omega, by omega, fun r hr => by simp at hr⟩, ?_⟩
  rintro x i v ⟨rfl, i0, i1, x0, hx0⟩
  intro K5 hK5
  refine ⟨fun hi => ⟨fun hx => hK5 _ ?_, fun hx => h x fun h => absurd h hx⟩, fun hi => h x fun hxm r hr => ?_⟩
  · obtain ⟨p, hp, r, hr, c0, c1, hv⟩ := hs.at i0 hi
    have hrm := List.mem_of_getElem? hr
    have := hb r hrm
    have hvn := hv.len
    refine ⟨p, hp, ⟨i0, hi⟩, _, c1, ⟨by omega, by omega⟩, ⟨by omega, by omega⟩, ⟨rfl, by omega, by omega, by omega, fun r' hr' => ?_⟩, by dsimp only; omega⟩
    rw [show (i + 1).toNat = i.toNat + 1 by omega, List.take_add_one, hr] at hr'
    rcases List.mem_append.1 hr' with h' | h'
    · have := hx0 r' h'
      omega
    · obtain rfl : r' = r := by simpa using h'
      omega
  · have := hx0 r (by rw [List.take_of_length_le (by omega)]; exact hr)
    omega

theorem spec.theodolitelaw05_big' {s t : Sl} {l : List Rw} {q : List Int} {u : H} {K : Bool → H → Prop} (hc : Come u s t l q) (h1 : K true u) (h2 : l.length ≤ 2000 → q.length ≤ 65536 → (∀ r ∈ l, r.v.length ≤ 65536) → K false u) : C.theodolitelaw05_big s t u K := by
  have hn := hc.rows.len
  have hm := hc.q.len
  apply vc.theodolitelaw05_big
  refine spec.theodolitekeep_Vectors' hc.rows hc.small hc.sn (by omega) fun x hx => ⟨fun _ => h1, fun hx' => ⟨fun _ => h1, fun hl => ?_⟩⟩
  by_cases hq : (65536 : Int) < (t.n : Int)
  · have : decide ((65536 : Int) < (t.n : Int)) = true := by simpa using hq
    rw [this]; exact h1
  · have : decide ((65536 : Int) < (t.n : Int)) = false := by simpa using hq
    rw [this]; exact h2 (by omega) (by omega) fun r hr => by have := hx (by omega) r hr; omega

/-! ### what hangs on ids and vectors alone -/

theorem rchk_pr {d : Int} : ∀ {l l' : List Rw} {seen : List Int}, l.map Rw.pr = l'.map Rw.pr → rchk d seen l = rchk d seen l' := by
  intro l
  induction l with
  | nil =>
    intro l' seen h
    have : l' = [] := by simpa using h.symm
    rw [this]
  | cons r l ih =>
    intro l' seen h
    cases l' with
    | nil => simp at h
    | cons r' l' =>
      simp only [List.map_cons, List.cons.injEq] at h
      have h1 : r.id = r'.id := congrArg Prod.fst h.1
      have h2 : r.v = r'.v := congrArg Prod.snd h.1
      simp only [rchk, h1, h2, ih h.2]

theorem pr_len {l l' : List Rw} (h : l.map Rw.pr = l'.map Rw.pr) : l.length = l'.length := by simpa using congrArg List.length h

theorem rcheck_pr {d : Int} {l l' : List Rw} (h : l.map Rw.pr = l'.map Rw.pr) : rcheck l d = rcheck l' d := by
  unfold rcheck
  rw [pr_len h, rchk_pr h]

theorem asked_pr {q : List Int} {l l' : List Rw} (h : l.map Rw.pr = l'.map Rw.pr) : asked l q = asked l' q := by
  unfold asked
  rw [rcheck_pr h]

theorem topErr_pr {q : List Int} {k : Int} {l l' : List Rw} (h : l.map Rw.pr = l'.map Rw.pr) : topErr l q k = topErr l' q k := by
  unfold topErr
  rw [asked_pr h]

theorem hits_pr {q : List Int} {l l' : List Rw} (h : l.map Rw.pr = l'.map Rw.pr) : l.map (hitOf q) = l'.map (hitOf q) := by
  have e : hitOf q = (fun p : Int × List Int => ((p.1, sqTo p.2 q p.2.length) : Hit)) ∘ Rw.pr := rfl
  rw [e, ← List.map_map, ← List.map_map, h]

/-! ### the document's first k -/

theorem spec.theodoliteref05_First {s : Sl} {L : List Hit} {k : Int} {u : H} {K : Sl → H → Prop} (hs : Hts u s L) (k0 : 0 ≤ k) (h : ∀ s', Hts u s' (L.take k.toNat) → K s' u) : C.theodoliteref05_First s k u K := by
  have hn := hs.len
  have hcap : s.n ≤ s.c := Seg.cap hs
  apply vc.theodoliteref05_First
  have ek : k = ((k.toNat : Nat) : Int) := by omega
  refine ⟨fun hk => ?_, fun hk => h _ ?_⟩
  · rw [ek]
    refine sem_slice (l := 0) (h := k.toNat) (m := s.c) tHits (.inl ⟨rfl, rfl⟩) (.inr rfl) (.inl ⟨rfl, rfl⟩) (Nat.zero_le _) (by omega) (Nat.le_refl _) hcap (h _ ?_)
    have := hs.part (l := 0) (h := k.toNat) (m := s.c) (Nat.zero_le _) (by omega) (by omega) (Nat.le_refl _)
    rw [List.drop_zero, Nat.sub_zero] at this
    exact this
  · rw [List.take_of_length_le (by omega)]
    exact hs

theorem spec.theodoliteref05_TopK {s t : Sl} {l : List Rw} {q : List Int} {k : Int} {u : H} {K : Sl → Int → H → Prop} (hs : Rws u s l) (ht : Ints u t q)
    (h : ∀ s' e u' L, u.le u' → e = topErr l q k → Hts u' s' L → (e = 0 → L = topk k.toNat (l.map (hitOf q))) → (e ≠ 0 → L = []) → K s' e u') : C.theodoliteref05_TopK s t k u K := by
  have hnil : Hts u ⟨none, 0, 0⟩ [] := (OwnF.nil (H.le.refl u) 0 3).own.seg
  have hbad : topErr l q k ≠ 0 → K ⟨none, 0, 0⟩ (topErr l q k) u := fun hne => h _ _ u [] (H.le.refl u) rfl hnil (fun e => absurd e hne) fun _ => rfl
  apply vc.theodoliteref05_TopK
  refine spec.theodoliteref05_Asked hs ht ⟨fun hne => ?_, fun he => ?_⟩
  · have e : topErr l q k = asked l q := if_pos hne
    rw [e] at hbad
    exact hbad hne
  have hq := asked_ok.1 he
  intro K2 hK2
  by_cases hk : 1 ≤ k ∧ k ≤ 64
  · have h0 := topErr_ok.2 ⟨hq, hk⟩
    refine ⟨fun h1 => by omega, fun h1 => ⟨fun h2 => by omega, fun h2 => hK2 ⟨none, 0, 0⟩ _ _ ?_⟩⟩
    have hlen := hq.rows.len
    refine spec.theodoliteref05_Hits hs ht (fun r hr => ⟨(hq.rows.v r hr).2, by have := (hq.rows.v r hr).1; omega⟩) hq.vq (by omega) fun s6 u7 ho => ?_
    exact spec.theodoliteref05_First ho.hts (by omega) fun s8 h8 => h s8 0 u7 _ ho.le h0.symm h8 (fun _ => rfl) fun hne => absurd rfl hne
  · have h1 : topErr l q k = 1 := by unfold topErr; rw [if_neg (by simpa using he), if_pos (by omega)]
    rw [h1] at hbad
    exact ⟨fun _ => hbad (by decide), fun k1 => ⟨fun _ => hbad (by decide), fun k2 => by omega⟩⟩

theorem TopRes.err {u u' : H} {l : List Rw} {q : List Int} {k : Int} {s : Sl} {e : Int} (h : TopRes u u' l q k s e) : e = topErr l q k := by
  rcases h.2 with ⟨h1, _⟩ | ⟨h1, h2, _⟩ <;> omega

/-- Where what is new stays, the hits stay. -/
theorem TopRes.else {u u' u'' : H} {l : List Rw} {q : List Int} {k : Int} {s : Sl} {e : Int} (h : TopRes u u' l q k s e) (he : ∀ b o, u b = none → u' b = some o → u'' b = some o) :
    ∃ L, Hts u'' s L ∧ (e = 0 → L = topk k.toNat (l.map (hitOf q))) ∧ (e ≠ 0 → L = []) := by
  rcases h.2 with ⟨_, h1, rfl⟩ | ⟨h0, _, _, _, _, ho⟩
  · exact ⟨[], (OwnF.nil (H.le.refl u'') 0 3).own.seg, fun h => absurd h h1, fun _ => rfl⟩
  · exact ⟨_, (ho.own.le (u' := u'') fun b o hb hu => he b o (ho.fresh b hb) hu).seg, fun _ => rfl, fun h => absurd h0 h⟩

theorem law.FlatTopK {s t : Sl} {l : List Rw} {q : List Int} {k dim : Int} {u : H} {K : Bool → H → Prop} (hc : Come u s t l q) (h : ∀ u', u.le u' → K true u') : C.theodolitelaw05_FlatTopK s t k dim u K := by
  apply vc.theodolitelaw05_FlatTopK
  refine spec.theodolitelaw05_big' hc ⟨fun _ => h u (H.le.refl u), fun hb => by cases hb⟩ fun hl hq hv => ⟨fun hb => (by cases hb), fun _ => ?_⟩
  refine spec.theodolitekeep_LendRows hc.rows (by omega) (fun r hr => by have := hv r hr; omega) fun g ls u3 l3 hg0 hg3 hL3 hsame => ?_
  have hll := pr_len hsame
  refine spec.theodolitekeep_Lend (hc.q.mono l3) (by omega) fun gy hgy => ?_
  have l5 := H.le_ins (u := u3) (b := gy) (lentObj q) hgy
  have hy5 := H.ins_same u3 gy (lentObj q)
  have hg5 := l5 _ _ hg3
  have hLx := hL3.else (u' := u3.ins gy (lentObj q)) fun b o _ hb => l5 _ _ hb
  generalize u3.ins gy (lentObj q) = u5 at l5 hy5 hg5 hLx
  have hx5 := hLx.rws (ms := [markR]) hg5 (c := l.length + 1) (by omega) (by omega)
  rw [hll] at hx5
  refine spec.flat_Check hx5 ?_
  refine spec.TopK hx5 (lent_ints hy5 (by omega)) fun s8 x9 u10 hr => ?_
  have l10 := hr.1
  have hgu : u gy = none := l3.none hgy
  refine spec.theodolitekeep_Back (l10 _ _ hy5) (((hc.q.mono l3).mono l5).mono l10) (by omega) fun o => ?_
  have hgg : g ≠ gy := H.ne_of hg3 hgy
  have hL12 : LentR u (u10.ins gy o) g ls := ⟨fun r hr => by
    obtain ⟨x, i1, i2, i3, i4, i5⟩ := hL3.inner r hr
    exact ⟨x, i1, by rw [H.ins_other _ _ (H.ne_of i2 hgy)]; exact l10 _ _ (l5 _ _ i2), i3, i4, i5⟩, hL3.apart⟩
  have l12 : u.le (u10.ins gy o) := H.le_out ((l3.trans l5).trans l10) hgu _
  have hel12 : ∀ b x, u5 b = none → u10 b = some x → u10.ins gy o b = some x := fun b x h1 h2 => by
    rw [H.ins_other _ _ (fun e => by rw [e, hy5] at h1; cases h1)]; exact h2
  have hg12 : u10.ins gy o g = some (rowsObj (ls ++ [markR])) := by rw [H.ins_other _ _ hgg]; exact l10 _ _ hg5
  generalize u10.ins gy o = u12 at hL12 l12 hel12 hg12
  refine spec.theodolitekeep_BackRows hg12 hg0 hL12 l12 hc.rows hsame (by omega) fun u14 l14 hel14 => ?_
  obtain ⟨La, hA, ha1, ha2⟩ := hr.else (u'' := u14) fun b x h1 h2 => hel14 b x (hel12 b x h1 h2) (fun e => by rw [e, hg5] at h1; cases h1) fun r hr' e => by
    obtain ⟨y, i1, i2, _⟩ := hLx.inner r hr'
    rw [i1] at e
    have : y = b := by simpa [Sl.blk] using e
    rw [← this, i2] at h1
    cases h1
  refine spec.theodoliteref05_TopK (hc.rows.mono l14) (hc.q.mono l14) fun s15 x16 u17 Lb l17 hx16 hB hb1 hb2 => ?_
  have he : x9 = x16 := by rw [hr.err, hx16, topErr_pr hsame]
  have hLL : La = Lb := by
    by_cases h0 : x9 = 0
    · rw [ha1 h0, hb1 (he ▸ h0), hits_pr hsame]
    · rw [ha2 h0, hb2 (he ▸ h0)]
  refine spec.theodolitelaw05_awake fun u19 l19 => ⟨fun _ => ⟨fun _ => ⟨fun _ => ?_, fun hb => by cases hb⟩, fun hb => by cases hb⟩, fun hb => by cases hb⟩
  have l19' := (l14.trans l17).trans l19
  refine spec.theodoliteref05_Check (hc.rows.mono l19') ⟨fun _ => ⟨fun _ => ?_, fun hne => absurd he hne⟩, fun hne => absurd (rcheck_pr hsame) hne⟩
  refine spec.theodolitekeep_Hits (hA.mono (l17.trans l19)) (hB.mono l19) ?_
  rw [decide_eq_true hLL]
  exact h u19 l19'

end Go.Proofs.YtgfafpiinencpaaGreat
