/- The statements FlatOrder, FlatParts: their functions answer true. -/
import Derived.Test.YtgfafpiinencpaaVcLawB
namespace Go.Proofs.Ytgfafpiinencpaa

/-! ### rows turned -/

theorem Seg.else {u u' : H} {s t : Sl} {size : Nat} {xs : List Value} (h : Seg u s size xs) (he : Else u u' t) (hne : ∀ p, s.a = some p → t.blk ≠ some p.block) : Seg u' s size xs := by
  refine ⟨h.len, h.cap, h.max, h.at'.imp id fun ⟨p, hp, hc⟩ => ⟨p, hp, fun i v e => ?_⟩⟩
  have h1 := hc i v e
  have hb : (p.add i).block = p.block := by
    cases p with
    | mk b o sp =>
      cases i with
      | zero => rfl
      | succ i => rfl
  unfold H.cell? at h1 ⊢
  rw [hb] at h1 ⊢
  split at h1
  · rename_i c t' f hg
    rw [he _ _ hg (hne p hp)]
    exact h1
  · cases h1

theorem Rws.else {u u' : H} {s t : Sl} {l : List Rw} (h : Rws u s l) (he : Else u u' t) (hne : ∀ p, s.a = some p → t.blk ≠ some p.block) (hv : ∀ r ∈ l, Ints u' r.s r.v) : Rws u' s l := ⟨Seg.else h.1 he hne, hv⟩

theorem build_row (x : Int) (s : Sl) : buildOf Try.prog 22 1 #[(0, .agg #[.int .i64 x, .slice s.a s.n s.c])] = some (41, [.int .i64 x, .slice s.a s.n s.c]) := by kernel_rfl

/-- Two parts of a slice, joined anew: the first has no room. -/
theorem sem_join {u : H} {s x : Sl} {l m : List Rw} (hs : Rws u s l) (hx : Rws u x m) (hc : s.c = s.n) (ha : s.a ≠ none) (hb : s.n + x.n ≤ 1099511627776) {K : Sl → H → Prop}
    (h0 : m = [] → K s u) (hK : ∀ s' u', u.le u' → Rws u' s' (l ++ m) → (∀ p, s'.a = some p → u p.block = none) → K s' u') :
    SemT Try.prog (Builtin.append_ #[22, 22] 22 #[.slice s.a s.n s.c, .slice x.a x.n x.c]) [.one .slice] u K := by
  have hxn := hx.len
  by_cases hx0 : x.n = 0
  · have hm : m = [] := List.eq_nil_of_length_eq_zero (by omega)
    refine .one' (c := .slice) s (fun w hw => ?_) (h0 hm)
    obtain ⟨ht, i, z, hi, hz, hsize, hby, hzs, _⟩ := elemT_spec tRows
    have hncap : s.n ≤ s.c := by omega
    have hl : ∀ (y : Addr), (loadCells y 0).run Try.prog w = .ok #[] w := fun y => by simpa using run_loadCells_list (P := Try.prog) w y [] (by simp)
    rw [hx0]
    cases hsa : s.a <;> cases hxa : x.a <;> simp [Builtin.append_, run_underlying ht, sizeOf, typeInfo, hi, Builtin.lenOf, Builtin.firstCells, hncap, CT.enc, hsa, hl, storeCells]
  · have hxs : x.a ≠ none := fun h => by
      have := seg_nil hx.1 h
      have hl := flat_len encR_len m
      rw [this] at hl
      simp at hl
      omega
    refine sem_append_new tRows hs.1 hx.1 (by omega) (.inr ha) hxs (by omega) (by omega) fun g c cur hg ho => hK _ _ (H.le_ins _ hg) ⟨?_, fun r hr => ?_⟩ fun p hp => ?_
    · rw [← List.flatMap_append] at ho
      exact ho.seg
    · rcases List.mem_append.1 hr with hr | hr
      · exact (hs.2 r hr).mono (H.le_ins _ hg)
      · exact (hx.2 r hr).mono (H.le_ins _ hg)
    · cases hp; exact hg

theorem take_get_drop {α : Type} {l : List α} {i : Nat} {x : α} (h : l[i]? = some x) : (l.take i ++ l.drop (i + 1)).length + 1 = l.length ∧ (x :: (l.take i ++ l.drop (i + 1))).Perm l := by
  have hi := (List.getElem?_eq_some_iff.1 h).1
  have hx := (List.getElem?_eq_some_iff.1 h).2
  constructor
  · simp; omega
  · have e : l = l.take i ++ x :: l.drop (i + 1) := by
      rw [← hx, ← List.drop_eq_getElem_cons hi, List.take_append_drop]
    have := (List.perm_middle (a := x) (l₁ := l.take i) (l₂ := l.drop (i + 1))).symm
    rw [← e] at this
    exact this

theorem spec.theodolitelaw05_turned {s t : Sl} {l : List Rw} {order : List Int} {u : H} {K : Sl → H → Prop} (hs : Rws u s l) (ht : Ints u t order) (hl : l.length ≤ 2000)
    (hK : ∀ s' u' l', u.le u' → Rws u' s' l' → l'.Perm l → K s' u') : C.theodolitelaw05_turned s t u K := by
  have hn := hs.len
  have htn := ht.max
  apply vc.theodolitelaw05_turned
  have hone : ∀ y ∈ l.flatMap encR, y.oneCell' = true := fun y hy => by
    obtain ⟨h, _, hy⟩ := List.mem_flatMap.1 hy
    exact encR_one h y hy
  refine sem_append (s := ⟨none, 0, 0⟩) (x := s) tRows (by decide) (Own.nil u _ 2) hs.1 hone (by simp; omega) (by simp; omega) fun s0 u1 ho hn0 hgr _ => ?_
  have hle1 : u.le u1 := fun b o hb => hgr.rest b o hb (by simp [Sl.blk])
  have hs0 : Rws u1 s0 l := ⟨by simpa using ho.seg, fun r hr => (hs.2 r hr).mono hle1⟩
  refine ⟨fun s4 s5 i v => 0 ≤ i ∧ ∃ lo lr : List Rw, OwnF u v 41 2 s4 (lo.flatMap encR) ∧ Rws v s5 lr ∧ (lo ++ lr).Perm l ∧ i + lr.length = l.length ∧ (∀ p, s5.a = some p → s4.blk ≠ some p.block) ∧ (∀ p, s5.a = some p → lr ≠ [] → v p.block ≠ none),
    fun _ s5 _ _ => s5.n, ⟨by omega, [], l, OwnF.nil hle1 _ _, hs0, by simp, by simp, by simp [Sl.blk], ?_⟩, ?_⟩
  · intro p hp _ hb
    rcases ho.is with h0 | ⟨g, cur, ha, hg, _⟩
    · rw [h0] at hp; cases hp
    · rw [ha] at hp; cases hp; rw [hg] at hb; cases hb
  rintro s4 s5 i v ⟨i0, lo, lr, ho4, hr5, hperm, hcount, hfar, hkn⟩
  change OwnF u v _ 2 s4 _ at ho4
  change Rws v s5 lr at hr5
  have hn4 := flat_n encR_len (by decide) ho4.own.seg
  have hn5 := hr5.len
  have hlo : lo.length + lr.length = l.length := by have := hperm.length_eq; simpa using this
  refine ⟨fun hpos => ?_, fun hpos => ?_⟩
  · intro K8 hK8
    have pick : ∀ x : Int, 0 ≤ x → x < (s5.n : Int) → K8 x v := by
      intro x x0 x1
      refine hK8 _ _ ?_
      obtain ⟨p, hp, r, hr, c0, c1, hv⟩ := hr5.at x0 x1
      obtain ⟨hlen, hpr⟩ := take_get_drop hr
      have hlr : lr ≠ [] := fun e => by rw [e] at hr; simp at hr
      refine ⟨p, hp, ⟨x0, x1⟩, _, c0, r.s, c1, sem_push' tRows (build_row _ _) (by decide) rfl (by simp [Value.oneCell']) ho4 (by omega) (by omega) fun s16 u17 ho16 hn16 hel hbl _ => ⟨⟨by omega, by omega⟩, ?_⟩⟩
      have ho16' : OwnF u u17 41 2 s16 ((lo ++ [r]).flatMap encR) := by
        rw [List.flatMap_append]; simpa [encR] using ho16
      have hrows : ∀ y ∈ lr, Ints u17 y.s y.v := fun y hy => (hs.2 y (hperm.mem_iff.1 (List.mem_append_right _ hy))).mono ho16.le
      have hr17 : Rws u17 s5 lr := hr5.else hel hfar hrows
      have hcap5 : s5.n ≤ s5.c := Seg.cap hr17.1
      have ex : x = ((x.toNat : Nat) : Int) := by omega
      have ex1 : x + 1 = ((x.toNat + 1 : Nat) : Int) := by omega
      have p18 := hr17.part (l := 0) (h := x.toNat) (m := x.toNat) (Nat.zero_le _) (by omega) (Nat.le_refl _) (by omega)
      have p20 := hr17.part (l := x.toNat + 1) (h := s5.n) (m := s5.c) (by omega) (Nat.le_refl _) hcap5 (Nat.le_refl _)
      rw [List.drop_zero, Nat.sub_zero] at p18
      rw [List.take_of_length_le (by simp; omega)] at p20
      have hperm2 : ((lo ++ [r]) ++ (lr.take x.toNat ++ lr.drop (x.toNat + 1))).Perm l := by
        rw [List.append_assoc]
        exact (List.Perm.append_left lo hpr).trans hperm
      have hs5a : s5.a ≠ none := by rw [hp]; simp
      have ha18 : ∀ y, (s5.part 0 x.toNat x.toNat 2).a = some y → y.block = p.block := by
        intro y hy
        simp only [Sl.part] at hy
        split at hy
        · rw [hp] at hy; cases hy; rfl
        · rw [hp] at hy; simp at hy; rw [← hy]; rfl
      have hpk : u17 p.block ≠ none := fun e => by
        have := hkn p hp hlr
        cases hv : v p.block with
        | none => exact this hv
        | some o => rw [hel _ _ hv (hfar p hp)] at e; cases e
      have hp16 : s16.blk ≠ some p.block := fun e => by
        rcases hbl _ e with h1 | h1
        · exact hfar p hp h1
        · exact hkn p hp hlr h1
      -- behind the joining
      have fin : SemT Try.prog (Builtin.append_ #[22, 22] 22 #[.slice (s5.part 0 x.toNat x.toNat 2).a (s5.part 0 x.toNat x.toNat 2).n (s5.part 0 x.toNat x.toNat 2).c, .slice (s5.part (x.toNat + 1) s5.n s5.c 2).a (s5.part (x.toNat + 1) s5.n s5.c 2).n (s5.part (x.toNat + 1) s5.n s5.c 2).c]) [.one .slice] u17
          fun s22 u23 => InR (i + 1) ∧ (0 ≤ i + 1 ∧ ∃ lo lr : List Rw, OwnF u u23 41 2 s16 (lo.flatMap encR) ∧ Rws u23 s22 lr ∧ (lo ++ lr).Perm l ∧ (i + 1) + lr.length = l.length ∧ (∀ p, s22.a = some p → s16.blk ≠ some p.block) ∧ (∀ p, s22.a = some p → lr ≠ [] → u23 p.block ≠ none)) ∧ s22.n < s5.n := by
        refine sem_join p18 p20 rfl ?_ (by simp [Sl.part]; omega) (fun hm => ⟨⟨by omega, by omega⟩, ⟨by omega, lo ++ [r], lr.take x.toNat, ho16', p18, ?_, ?_, ?_, ?_⟩, by simp [Sl.part]; omega⟩) fun s' u' hle' hr' hnew => ⟨⟨by omega, by omega⟩, ⟨by omega, lo ++ [r], _, ho16'.mono hle', hr', hperm2, by omega, ?_, ?_⟩, ?_⟩
        · simp only [Sl.part]
          split
          · exact hs5a
          · rw [hp]; simp
        · rw [hm, List.append_nil] at hperm2; exact hperm2
        · rw [hm, List.append_nil] at hlen; omega
        · intro y hy; rw [ha18 y hy]; exact hp16
        · intro y hy _; rw [ha18 y hy]; exact hpk
        · intro y hy e
          exact own_known ho16' e (hnew y hy)
        · intro y hy hne e
          have hseg := hr'.1
          have hl0 : 0 < ((lr.take x.toNat ++ lr.drop (x.toNat + 1)).flatMap encR).length := by
            rw [flat_len encR_len]
            have := List.length_pos_iff.2 hne
            omega
          obtain ⟨p', hp', hc'⟩ := hseg.get hl0
          rw [hy] at hp'; cases hp'
          have := hc' 0 _ (List.getElem?_eq_getElem hl0)
          have hz : y.add 0 = y := rfl
          rw [hz] at this
          unfold H.cell? at this
          rw [e] at this
          cases this
        · have := hr'.len; omega
      have s1 : ∀ {K' : Sl → H → Prop}, K' (s5.part 0 x.toNat x.toNat 2) u17 → SemT Try.prog (Instr.sliceAt 22 (.slice s5.a s5.n s5.c) none (some (.int .i64 x)) (some (.int .i64 x))) [.one .slice] u17 K' := fun hK' => by
        rw [ex]
        exact sem_slice (l := 0) (h := x.toNat) (m := x.toNat) tRows (.inl ⟨rfl, rfl⟩) (.inr rfl) (.inr ⟨rfl, by simp⟩) (Nat.zero_le _) (Nat.le_refl _) (by omega) hcap5 (by simpa using hK')
      have s2 : ∀ {K' : Sl → H → Prop}, K' (s5.part (x.toNat + 1) s5.n s5.c 2) u17 → SemT Try.prog (Instr.sliceAt 22 (.slice s5.a s5.n s5.c) (some (.int .i64 (x + 1))) none none) [.one .slice] u17 K' := fun hK' => by
        rw [ex1]
        exact sem_slice (l := x.toNat + 1) (h := s5.n) (m := s5.c) tRows (.inr rfl) (.inl ⟨rfl, rfl⟩) (.inl ⟨rfl, rfl⟩) (by omega) hcap5 (Nat.le_refl _) hcap5 hK'
      exact ⟨s1 (s2 fin), s2 (s1 fin)⟩
    intro K30 hK30
    refine ⟨fun hi => ?_, fun hi => hK30 _ _ ⟨fun hb => (by cases hb), fun _ => pick 0 (by omega) (by omega)⟩⟩
    have hlev := ho4.le
    obtain ⟨p, hp, hc⟩ := (ht.mono hlev).at i0 hi
    refine ⟨p, hp, ⟨i0, hi⟩, _, hc, hK30 _ _ ⟨fun hb => ⟨p, hp, ⟨i0, hi⟩, _, hc, by omega, ?_⟩, fun _ => pick 0 (by omega) (by omega)⟩⟩
    have hb0 : 0 ≤ order.getD i.toNat 0 := by simpa using hb
    refine pick _ ?_ ?_
    · exact Int.tmod_nonneg _ hb0
    · exact Int.tmod_lt_of_pos _ (by omega)
  · have hlr : lr = [] := List.eq_nil_of_length_eq_zero (by omega)
    rw [hlr, List.append_nil] at hperm
    exact hK s4 v lo ho4.le ⟨ho4.own.seg, fun r hr => (hs.2 r (hperm.mem_iff.1 hr)).mono ho4.le⟩ hperm

theorem Rok.perm {l l' : List Rw} {d : Int} (h : Rok l d) (hp : l'.Perm l) : Rok l' d :=
  ⟨h.dim, by rw [hp.length_eq]; exact h.len, fun r hr => h.id r (hp.mem_iff.1 hr), (hp.symm.map _).nodup h.nodup, fun r hr => h.v r (hp.mem_iff.1 hr)⟩
theorem Qok.perm {l l' : List Rw} {q : List Int} (h : Qok l q) (hp : l'.Perm l) : Qok l' q := ⟨h.vq, h.rows.perm hp⟩

theorem law.FlatOrder {s o t : Sl} {l : List Rw} {order q : List Int} {k : Int} {u : H} {K : Bool → H → Prop} (hc : Come u s t l q) (ho : Ints u o order) (h : ∀ u', u.le u' → K true u') : C.theodolitelaw05_FlatOrder s o t k u K := by
  have hn := hc.rows.len
  apply vc.theodolitelaw05_FlatOrder
  intro K0 hK0
  refine spec.theodolitelaw05_big hc ⟨fun _ => h u (H.le.refl u), fun hb => by cases hb⟩ fun hl _ => ⟨fun hb => (by cases hb), fun _ => ⟨fun _ => h u (H.le.refl u), fun _ => hK0 _ _ ?_⟩⟩
  clear hK0 K0
  refine spec.TopK hc.rows hc.q fun s3 x4 u5 ra => ?_
  have hc5 := hc.mono ra.1
  refine spec.theodolitelaw05_turned hc5.rows (ho.mono ra.1) hl fun s6 u7 l' l7 hr6 hp => ?_
  have hle7 := ra.1.trans l7
  refine spec.TopK hr6 (hc5.q.mono l7) fun s8 x9 u10 rb => ?_
  have hle10 := hle7.trans rb.1
  have hlq : topErr l' q k = 0 ↔ topErr l q k = 0 := by
    rw [topErr_ok, topErr_ok]
    exact ⟨fun ⟨a, b⟩ => ⟨a.perm hp.symm, b⟩, fun ⟨a, b⟩ => ⟨a.perm hp, b⟩⟩
  have hx : x4 = 0 ↔ x9 = 0 := by
    rcases ra.2 with ⟨h1, h2, _⟩ | ⟨h1, h2, _⟩ <;> rcases rb.2 with ⟨h3, h4, _⟩ | ⟨h3, h4, _⟩
    · exact ⟨fun e => absurd e h2, fun e => absurd e h4⟩
    · have := hlq.1 h4; omega
    · have := hlq.2 h2; omega
    · exact ⟨fun _ => h3, fun _ => h1⟩
  obtain ⟨La, ha, _, ha1, ha2⟩ := ra.hts
  obtain ⟨Lb, hb, _, hb1, hb2⟩ := rb.hts
  have hLL : La = Lb := by
    by_cases he : x4 = 0
    · rw [ha1 he, hb1 (hx.1 he), topk_eq (hp.map (hitOf q))]
    · rw [ha2 he, hb2 (fun e => he (hx.2 e))]
  intro K11 hK11
  have hdec : decide (x4 = 0) = decide (x9 = 0) := by simp [hx]
  refine ⟨fun hne => absurd hdec hne, fun _ => ?_⟩
  refine spec.theodolitekeep_Hits (ha.mono (l7.trans rb.1)) hb ?_
  rw [decide_eq_true hLL]
  refine ⟨fun hne => absurd rfl hne, fun _ => hK11 _ _ ?_⟩
  intro K14 hK14
  refine ⟨fun _ => spec.theodolitelaw05_awake fun u27 l27 => h u27 (hle10.trans l27), fun he => ⟨fun _ => spec.theodolitelaw05_awake fun u29 l29 => h u29 (hle10.trans l29), fun hk => hK14 _ _ ?_⟩⟩
  rcases ra.2 with ⟨_, h2, _⟩ | ⟨_, _, hq, k1, k2, hoa⟩
  · exact absurd he h2
  refine ⟨⟨by omega, by omega⟩, ?_⟩
  have hc10 := hc.mono hle10
  refine spec.TopK hc10.rows hc10.q fun s17 x18 u19 rc => ?_
  refine spec.theodolitelaw05_awake fun u21 l21 => ⟨fun _ => ?_, fun hb => by cases hb⟩
  have hle21 := (hle10.trans rc.1).trans l21
  rcases rc.2 with ⟨h1, h2, _⟩ | ⟨h1, _, _, _, _, hoc⟩
  · exact absurd (topErr_ok.2 ⟨hq, by omega, by omega⟩) (h1 ▸ h2)
  have hA := hoa.hts.mono ((l7.trans rb.1).trans (rc.1.trans l21))
  have hC := hoc.hts.mono l21
  have hAn := hA.len
  have hCn := hC.len
  have hCc : s17.n ≤ s17.c := Seg.cap hC
  have e1 : (k + 1).toNat = k.toNat + 1 := by omega
  rw [e1] at hC hCn
  rw [topk_len] at hAn hCn
  refine ⟨fun _ => ⟨fun _ => ⟨⟨by omega, by omega⟩, fun _ => ?_, fun hgt => by omega⟩, fun hlt' => by omega⟩, fun hne => absurd h1 hne⟩
  refine sem_slice (l := 0) (h := s3.n) (m := s17.c) tHits (.inl ⟨rfl, rfl⟩) (.inr rfl) (.inl ⟨rfl, rfl⟩) (Nat.zero_le _) (by omega) (Nat.le_refl _) hCc ?_
  have hp := hC.part (l := 0) (h := s3.n) (m := s17.c) (Nat.zero_le _) (by omega) (by omega) (Nat.le_refl _)
  have hA2 := hA.len
  rw [List.drop_zero, Nat.sub_zero, hA2, topk_prefix] at hp
  rw [← hA2] at hp
  refine spec.theodolitekeep_Hits hp hA ?_
  rw [decide_eq_true rfl]
  exact h u21 hle21

end Go.Proofs.Ytgfafpiinencpaa
