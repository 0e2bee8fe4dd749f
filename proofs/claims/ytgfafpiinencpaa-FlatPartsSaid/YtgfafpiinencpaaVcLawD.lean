/- topk.Merge; the statement FlatParts: its function answers true. -/
import Derived.Test.YtgfafpiinencpaaVcLawC
namespace Go.Proofs.Ytgfafpiinencpaa

/-- Slices of hits in a slice. -/
def Parts (u : H) (s : Sl) (ps : List (Sl × List Hit)) : Prop := Seg u s 1 (ps.map fun p => Value.slice p.1.a p.1.n p.1.c) ∧ ∀ p ∈ ps, Hts u p.1 p.2

theorem spec.topk_together {s : Sl} {ps : List (Sl × List Hit)} {u : H} {K : Sl → H → Prop} (hs : Parts u s ps) (hb : (ps.flatMap (·.2)).length ≤ 1000000)
    (hK : ∀ s' u', OwnF u u' 43 3 s' ((ps.flatMap (·.2)).flatMap encH) → K s' u') : C.topk_together_api_Hit_ s u K := by
  have hn : s.n = ps.length := by have := hs.1.len; simpa using this.symm
  have hmx := Nat.le_trans hs.1.cap hs.1.max
  apply vc.topk_together_api_Hit_
  refine ⟨fun t i v => 0 ≤ i ∧ OwnF u v 43 3 t (((ps.take i.toNat).flatMap (·.2)).flatMap encH), fun _ i _ => s.n - i.toNat, ⟨by omega, by simpa using OwnF.nil (H.le.refl u) _ _⟩, ?_⟩
  rintro t i v ⟨i0, ho⟩
  change OwnF u v _ 3 t _ at ho
  refine ⟨fun hi => ?_, fun hi => ?_⟩
  · have hil : i.toNat < ps.length := by omega
    obtain ⟨p, hp, hc⟩ := (hs.1.mono ho.le).get (i := i.toNat) (by simpa using hil)
    have h1 := hc i.toNat (.slice ps[i.toNat].1.a ps[i.toNat].1.n ps[i.toNat].1.c) (by rw [List.getElem?_map, List.getElem?_eq_getElem hil]; rfl)
    have hh := (hs.2 _ (List.getElem_mem hil)).mono ho.le
    have e : (ps.take (i.toNat + 1)).flatMap (·.2) = (ps.take i.toNat).flatMap (·.2) ++ ps[i.toNat].2 := by
      rw [List.take_add_one, List.getElem?_eq_getElem hil, List.flatMap_append]; simp
    have hlen : ((ps.take (i.toNat + 1)).flatMap (·.2)).length ≤ 1000000 := by
      refine Nat.le_trans ?_ hb
      have := congrArg (List.flatMap (·.2)) (List.take_append_drop (i.toNat + 1) ps)
      rw [← this, List.flatMap_append, List.length_append]
      omega
    have htn := flat_n encH_len (by decide) ho.own.seg
    have hxn := hh.len
    rw [e, List.length_append] at hlen
    refine ⟨p, hp, ⟨i0, hi⟩, ps[i.toNat].1, by rw [Nat.mul_one]; exact h1, sem_append tHits (by decide) ho.own hh ?_ (by omega) (by omega) fun s' u' ho' hn' hgr _ => ⟨⟨by omega, by omega⟩, ⟨by omega, ?_⟩, by dsimp only; omega⟩⟩
    · intro y hy
      obtain ⟨h, _, hy⟩ := List.mem_flatMap.1 hy
      exact encH_one h y hy
    · rw [show (i + 1).toNat = i.toNat + 1 by omega, e, List.flatMap_append]
      exact ⟨ho', hgr.le ho.le ho.fresh, fun g' hg' => hgr.out ho.le ho.fresh g' hg'⟩
  · rw [List.take_of_length_le (by omega)] at ho
    exact hK t v ho

/-- All that is known but of one block. -/
def H.del (u : H) (n : Nat) : H := fun b => if b = n then none else u b
theorem H.del_le (u : H) (n : Nat) : (u.del n).le u := fun b o h => by
  unfold H.del at h
  split at h
  · cases h
  · exact h
theorem H.del_at (u : H) (n : Nat) : u.del n n = none := by simp [H.del]
theorem H.del_other (u : H) {n b : Nat} (h : b ≠ n) : u.del n b = u b := by simp [H.del, h]

theorem spec.topk_New' {k : Int} {u : H} {K : Option Addr → Int → H → Prop} (hbad : k < 1 ∨ 64 < k → K none 1 u) (hok : 1 ≤ k → k ≤ 64 → ∀ n, u n = none → K (some ⟨n, 0, none⟩) 0 (u.ins n (.cells #[.int .i64 k, .slice none 0 0] 92 (0, 0)))) : C.topk_New k u K := by
  apply vc.topk_New
  exact ⟨fun h => hbad (.inl h), fun h => ⟨fun h2 => hbad (.inr h2), fun h2 n hn => hok (by omega) (by omega) n hn⟩⟩

theorem TopAt.start {u : H} {n : Nat} {k : Int} (h : u n = some (.cells #[.int .i64 k, .slice none 0 0] 92 (0, 0))) : TopAt (u.del n) n k u [] :=
  ⟨[], ⟨⟨⟨none, 0, 0⟩, h, OwnF.nil (u.del_le n) _ _, by simp [Sl.blk]⟩, u.del_at n, by simp⟩, fun i _ hi => by simp at hi, by simp [topk, sortH]⟩

theorem spec.topk_Merge {s : Sl} {ps : List (Sl × List Hit)} {k : Int} {u : H} {K : Sl → Int → H → Prop} (hs : Parts u s ps) (hb : (ps.flatMap (·.2)).length ≤ 1000000)
    (hbad : k < 1 ∨ 64 < k → K ⟨none, 0, 0⟩ 1 u) (hok : 1 ≤ k → k ≤ 64 → ∀ s' u', OwnF u u' 43 3 s' ((topk k.toNat (ps.flatMap (·.2))).flatMap encH) → K s' 0 u') : C.topk_Merge k s u K := by
  apply vc.topk_Merge
  refine spec.topk_New' (fun h => ⟨fun _ => hbad h, fun h => by cases h⟩) fun k1 k2 n hn => ⟨fun h => absurd rfl h, fun _ => ?_⟩
  have l1 := H.le_ins (u := u) (b := n) (.cells #[.int .i64 k, .slice none 0 0] 92 (0, 0)) hn
  have hs1 : Parts (u.ins n (.cells #[.int .i64 k, .slice none 0 0] 92 (0, 0))) s ps := ⟨hs.1.mono l1, fun p hp => (hs.2 p hp).mono l1⟩
  refine spec.topk_together hs1 hb fun s3 u4 ho => ?_
  have hn4 := ho.le _ _ (H.ins_same _ _ _)
  have hst := TopAt.start hn4
  have hne : s3.blk ≠ some n := fun e => by have := ho.fresh n e; rw [H.ins_same] at this; cases this
  have hsb : Hts (u4.del n) s3 (ps.flatMap (·.2)) := (ho.own.le (u' := u4.del n) fun b o hb' hu => by rw [H.del_other _ (fun e => hne (by rw [← e]; exact hb'))]; exact hu).seg
  have lub : u.le (u4.del n) := fun b o hb' => by
    rw [H.del_other _ (fun e => by rw [e, hn] at hb'; cases hb')]
    exact ho.le _ _ (l1 _ _ hb')
  generalize u4.del n = ub at hst hsb lub
  generalize ps.flatMap (·.2) = J at hsb hb hok
  have hsn := hsb.len
  refine ⟨fun i v => 0 ≤ i ∧ TopAt ub n k v (J.take i.toNat).reverse, fun i _ => s3.n - i.toNat, ⟨by omega, by simpa using hst⟩, ?_⟩
  rintro i v ⟨i0, hj⟩
  refine ⟨fun hi => ?_, fun hi => ?_⟩
  · obtain ⟨p, hp, x, hx, c0, c1, c2⟩ := (hsb.mono hj.le).at i0 hi
    refine ⟨p, hp, ⟨i0, hi⟩, _, c0, _, c1, _, c2, spec.topk_Heap__Offer hj k1 k2 fun b u' hj' => ⟨⟨by omega, by omega⟩, ⟨by omega, ?_⟩, by dsimp only; omega⟩⟩
    rw [show (i + 1).toNat = i.toNat + 1 by omega, List.take_add_one, hx, List.reverse_append]
    exact hj'
  · refine spec.topk_Heap__List hj fun s' u' ho' => hok k1 k2 s' u' ?_
    have ho2 := ho'.weaken (lub.trans hj.le)
    rw [List.take_of_length_le (by omega), topk_eq (List.reverse_perm _)] at ho2
    exact ho2

theorem build_parts (a b : Sl) : buildOf Try.prog 84 2 #[(0, .slice a.a a.n a.c), (1, .slice b.a b.n b.c)] = some (28, [.slice a.a a.n a.c, .slice b.a b.n b.c]) := by kernel_rfl

theorem law.FlatParts {s t : Sl} {l : List Rw} {q : List Int} {cut k : Int} {u : H} {K : Bool → H → Prop} (hc : Come u s t l q) (h : ∀ u', u.le u' → K true u') : C.theodolitelaw05_FlatParts s cut t k u K := by
  have hn := hc.rows.len
  have hcap : s.n ≤ s.c := Seg.cap hc.rows.1
  apply vc.theodolitelaw05_FlatParts
  intro K0 hK0
  refine spec.theodolitelaw05_big hc ⟨fun _ => h u (H.le.refl u), fun hb => by cases hb⟩ fun hl _ => ⟨fun hb => (by cases hb), fun _ => ⟨fun _ => h u (H.le.refl u), fun c0 => ⟨fun _ => h u (H.le.refl u), fun c1 => hK0 _ _ ?_⟩⟩⟩
  clear hK0 K0
  have ec : cut = ((cut.toNat : Nat) : Int) := by omega
  refine spec.TopK hc.rows hc.q fun s3 x4 u5 ra => ?_
  have hc5 := hc.mono ra.1
  rw [ec]
  refine sem_slice (l := 0) (h := cut.toNat) (m := s.c) tRows (.inl ⟨rfl, rfl⟩) (.inr rfl) (.inl ⟨rfl, rfl⟩) (Nat.zero_le _) (by omega) (Nat.le_refl _) hcap ?_
  have pa := hc5.rows.part (l := 0) (h := cut.toNat) (m := s.c) (Nat.zero_le _) (by omega) (by omega) (Nat.le_refl _)
  rw [List.drop_zero, Nat.sub_zero] at pa
  refine spec.TopK pa hc5.q fun s8 x9 u10 rb => ?_
  have hc10 := hc5.mono rb.1
  refine sem_slice (l := cut.toNat) (h := s.n) (m := s.c) tRows (.inr rfl) (.inl ⟨rfl, rfl⟩) (.inl ⟨rfl, rfl⟩) (by omega) hcap (Nat.le_refl _) hcap ?_
  have pb := hc10.rows.part (l := cut.toNat) (h := s.n) (m := s.c) (by omega) (Nat.le_refl _) hcap (Nat.le_refl _)
  rw [List.take_of_length_le (by simp; omega)] at pb
  refine spec.TopK pb hc10.q fun s13 x14 u15 rc => ?_
  have hle15 := (ra.1.trans rb.1).trans rc.1
  intro K16 hK16
  have aw : ∀ {K' : Bool → H → Prop}, (∀ u', u.le u' → K' true u') → C.theodolitelaw05_awake u15 K' := fun hK' => spec.theodolitelaw05_awake fun u' l' => hK' u' (hle15.trans l')
  refine ⟨fun _ => aw h, fun e4 => ⟨fun _ => aw h, fun e9 => ⟨fun _ => aw h, fun e14 => hK16 _ _ ?_⟩⟩⟩
  obtain ⟨La, ha, _, ha1, _⟩ := ra.hts
  obtain ⟨Lb, hb, hb0, hb1, _⟩ := rb.hts
  obtain ⟨Lc, hcc, hc0, hc1, _⟩ := rc.hts
  have hk : 1 ≤ k ∧ k ≤ 64 := by
    rcases ra.2 with ⟨_, h1, _⟩ | ⟨_, _, _, k1, k2, _⟩
    · exact absurd e4 h1
    · exact ⟨k1, k2⟩
  refine sem_build (build_parts s8 s13) fun g hg => ?_
  have lg := H.le_ins (u := u15) (b := g) (.cells [Value.slice s8.a s8.n s8.c, .slice s13.a s13.n s13.c].toArray 28 (0, 0)) hg
  have hps : Parts (u15.ins g (.cells [Value.slice s8.a s8.n s8.c, .slice s13.a s13.n s13.c].toArray 28 (0, 0))) ⟨some ⟨g, 0, none⟩, 2, 2⟩ [(s8, Lb), (s13, Lc)] := by
    refine ⟨?_, ?_⟩
    · have := (OwnF.make (k := 1) (H.le.refl u15) hg (cells := [Value.slice s8.a s8.n s8.c, .slice s13.a s13.n s13.c].toArray) (e := 28) (n := 2) (by omega) (by simp)).own.seg
      simpa using this
    · intro p hp
      rcases List.mem_cons.1 hp with rfl | hp
      · exact hb.mono (rc.1.trans lg)
      · rcases List.mem_cons.1 hp with rfl | hp
        · exact hcc.mono lg
        · cases hp
  refine spec.topk_Merge hps (by simp; omega) (fun hbad => by omega) fun _ _ s21 u23 ho => ?_
  refine spec.theodolitelaw05_awake fun u25 l25 => ⟨fun _ => ⟨fun _ => ?_, fun hne => absurd rfl hne⟩, fun hb' => by cases hb'⟩
  have hle25 := (lg.trans ho.le).trans l25
  have hj : topk k.toNat (([(s8, Lb), (s13, Lc)] : List (Sl × List Hit)).flatMap (·.2)) = La := by
    simp only [List.flatMap_cons, List.flatMap_nil, List.append_nil]
    rw [hb1 e9, hc1 e14, ha1 e4, ← topk_both, ← List.map_append, List.take_append_drop]
  rw [hj] at ho
  refine spec.theodolitekeep_Hits (ho.mono l25).hts (ha.mono ((rb.1.trans rc.1).trans hle25)) ?_
  rw [decide_eq_true rfl]
  exact h u25 (hle15.trans hle25)

end Go.Proofs.Ytgfafpiinencpaa
