/- The statement FlatSearch: its function answers true. -/
import Derived.Test.YtgfafpiinencpaaGreatVcSpoil
namespace Go.Proofs.YtgfafpiinencpaaGreat

/-- The regions of a search of all rows. -/
def restOf (a b c : Sl) (rest : List Rw) : List Rgn := if rest = [] then [] else [⟨2, a, b, 0, c, boxLo rest, boxHi rest, sortI (rest.map (·.id))⟩]

theorem AnsAt.own {u0 u : H} {sh ss sr : Sl} {hits : List Hit} {seen : List Int} {rest : List Rw} (h : AnsAt u0 u sh ss sr hits seen rest) : ∃ a b c : Sl, AnsO u0 u sh ss sr hits seen (restOf a b c rest) := by
  rcases h.r with ⟨he, rfl⟩ | ⟨hne, _, a, b, c, h1, h2, h3, h4, n1, n2, n3, f1, f2⟩
  · refine ⟨⟨none, 0, 0⟩, ⟨none, 0, 0⟩, ⟨none, 0, 0⟩, ?_⟩
    rw [restOf, if_pos he]
    refine ⟨h.h, h.s, OwnF.nil h.h.le _ _, fun r hr => (by cases hr), ?_⟩
    simp only [ansS, List.flatMap_nil]
    refine List.pairwise_cons.2 ⟨fun t ht => ?_, List.pairwise_cons.2 ⟨fun t ht => ?_, List.pairwise_singleton _ _⟩⟩
    · rcases List.mem_cons.1 ht with rfl | ht
      · exact h.hs
      · obtain rfl : t = _ := by simpa using ht
        intro g _ hg; simp [Sl.blk] at hg
    · obtain rfl : t = _ := by simpa using ht
      intro g _ hg; simp [Sl.blk] at hg
  · refine ⟨a, b, c, ?_⟩
    rw [restOf, if_neg hne]
    have e : ([⟨2, a, b, 0, c, boxLo rest, boxHi rest, sortI (rest.map (·.id))⟩] : List Rgn).flatMap encG = [.int .i64 2, .slice a.a a.n a.c, .slice b.a b.n b.c, .int .u64 0, .int .u64 0, .slice c.a c.n c.c] := by
      simp [encG, hiW0, loW0]
    refine ⟨h.h, h.s, by rw [e]; exact h1, fun r hr => ?_, ?_⟩
    · obtain rfl : r = _ := by simpa using hr
      exact ⟨h2, h3, h4⟩
    · have far1 : ∀ x ∈ [a, b, c], Far sh x ∧ Far ss x ∧ Far sr x := fun x hx => ⟨fun g h1' h2' => (f1 x hx g h2').1 h1', fun g h1' h2' => (f1 x hx g h2').2.1 h1', fun g h1' h2' => (f1 x hx g h2').2.2 h1'⟩
      have ne : ∀ {x y : Sl}, x.blk ≠ y.blk → Far x y := fun hn g hx hy => hn (by rw [hx, hy])
      simp only [ansS, List.flatMap_cons, List.flatMap_nil, List.append_nil, Rgn.sls]
      refine List.pairwise_cons.2 ⟨fun t ht => ?_, List.pairwise_cons.2 ⟨fun t ht => ?_, List.pairwise_cons.2 ⟨fun t ht => (far1 t ht).2.2, List.pairwise_cons.2 ⟨fun t ht => ?_, List.pairwise_cons.2 ⟨fun t ht => ?_, List.pairwise_singleton _ _⟩⟩⟩⟩⟩
      · rcases List.mem_cons.1 ht with rfl | ht
        · exact h.hs
        · rcases List.mem_cons.1 ht with rfl | ht
          · exact fun g hg hg2 => (f2 g hg2).1 hg
          · exact (far1 t ht).1
      · rcases List.mem_cons.1 ht with rfl | ht
        · exact fun g hg hg2 => (f2 g hg2).2 hg
        · exact (far1 t ht).2.1
      · rcases List.mem_cons.1 ht with rfl | ht
        · exact ne n1
        · obtain rfl : t = c := by simpa using ht
          exact ne n2
      · obtain rfl : t = c := by simpa using ht
        exact ne n3

theorem restOf_core (a b c a' b' c' : Sl) (rest : List Rw) : (restOf a b c rest).map Rgn.core = (restOf a' b' c' rest).map Rgn.core := by
  unfold restOf
  split <;> rfl

/-- What a search of all rows tells is sound. -/
theorem flat_sound {l : List Rw} {q : List Int} {k b : Int} (hq : Qok l q) (a1 a2 a3 : Sl) : Sound l q k (topk k.toNat ((l.take b.toNat).map (hitOf q))) (sortI ((l.take b.toNat).map (·.id))) (restOf a1 a2 a3 (l.drop b.toNat)) := by
  have hnd := hq.rows.nodup
  have e : l.map (·.id) = (l.take b.toNat).map (·.id) ++ (l.drop b.toNat).map (·.id) := by rw [← List.map_append, List.take_append_drop]
  have hnd' := hnd
  rw [e] at hnd'
  obtain ⟨n1, n2, _⟩ := List.nodup_append.1 hnd'
  refine ⟨sortI_rise n1, fun r hr => ?_, ?_, fun m hm hmid => ?_⟩
  · unfold restOf at hr
    split at hr
    · cases hr
    · rename_i hne
      obtain rfl : r = ⟨2, a1, a2, 0, a3, boxLo (l.drop b.toNat), boxHi (l.drop b.toNat), sortI ((l.drop b.toNat).map (·.id))⟩ := List.mem_singleton.1 hr
      have hok : Rok (l.drop b.toNat) (q.length : Int) := hq.rows.sub (List.drop_sublist _ _)
      obtain ⟨b1, b2, b3, b4, b5, b6⟩ := box_ok hok hne
      refine ⟨⟨hok.dim, sortI_rise n2, fun x hx => ?_, .inr (.inl ⟨rfl, rfl, b3, b4, b1, b2, b5⟩)⟩, fun h => ?_, fun x hx => ?_⟩
      · obtain ⟨r, hr, rfl⟩ := List.mem_map.1 ((sortI_perm _).mem_iff.1 hx)
        exact hok.id r hr
      · have := congrArg List.length h
        rw [sortI_len, List.length_map] at this
        exact hne (List.eq_nil_of_length_eq_zero this)
      · obtain ⟨r, hr, rfl⟩ := List.mem_map.1 ((sortI_perm _).mem_iff.1 hx)
        refine ⟨r, List.mem_of_mem_drop hr, rfl, fun _ i hi => b6 r hr i ?_, fun h => by cases h⟩
        have := (hok.v r hr).1
        omega
  · rw [e]
    refine List.Perm.append (sortI_perm _) ?_
    unfold restOf
    split
    · rename_i h0; rw [h0]; exact .refl _
    · simpa using sortI_perm _
  · have hp : m.Perm (l.take b.toNat) := rows_perm hnd hm (fun r hr => List.mem_of_mem_take hr) (by rw [hmid]; exact sortI_perm _)
    exact (topk_eq (hp.map (hitOf q))).symm

theorem spec.theodoliteref05_Searched {t : Sl} {q : List Int} {d k b : Int} {u : H} {K : Int → H → Prop} (ht : Ints u t q) (h : K (if vcheck q d ≠ 0 then vcheck q d else if k < 1 ∨ 64 < k ∨ b < 0 ∨ 1000000 < b then 1 else 0) u) : C.theodoliteref05_Searched t d k b u K := by
  apply vc.theodoliteref05_Searched
  refine spec.theodoliteref03_Check ht ⟨fun hne => by rw [if_pos hne] at h; exact h, fun he => ?_⟩
  rw [if_neg (by simpa using he)] at h
  by_cases hbad : k < 1 ∨ 64 < k ∨ b < 0 ∨ 1000000 < b
  · rw [if_pos hbad] at h
    exact ⟨fun _ => h, fun k1 => ⟨fun _ => h, fun k2 => ⟨fun _ => h, fun b1 => ⟨fun _ => h, fun b2 => by omega⟩⟩⟩⟩
  · rw [if_neg hbad] at h
    exact ⟨fun k1 => by omega, fun _ => ⟨fun k2 => by omega, fun _ => ⟨fun b1 => by omega, fun _ => ⟨fun b2 => by omega, fun _ => h⟩⟩⟩⟩

theorem srchErr_ok {l : List Rw} {q : List Int} {k b : Int} : srchErr l q k b = 0 ↔ Qok l q ∧ 1 ≤ k ∧ k ≤ 64 ∧ 0 ≤ b ∧ b ≤ 1000000 := by
  unfold srchErr
  constructor
  · intro h
    split at h
    · rename_i hne; exact absurd h hne
    · rename_i he
      split at h
      · cases h
      · exact ⟨asked_ok.1 (by simpa using he), by omega, by omega, by omega, by omega⟩
  · rintro ⟨h1, h2⟩
    rw [if_neg (by simp [asked_ok.2 h1]), if_neg (by omega)]

/-- What a search of all rows tells. -/
theorem spec.Search' {s t : Sl} {l : List Rw} {q : List Int} {k b : Int} {u : H} {K : Sl → Sl → Sl → Int → H → Prop} (hs : Rws u s l) (ht : Ints u t q)
    (hbad : srchErr l q k b ≠ 0 → K ⟨none, 0, 0⟩ ⟨none, 0, 0⟩ ⟨none, 0, 0⟩ (srchErr l q k b) u)
    (hok : srchErr l q k b = 0 → ∀ sh ss sr a1 a2 a3 u', AnsO u u' sh ss sr (topk k.toNat ((l.take b.toNat).map (hitOf q))) (sortI ((l.take b.toNat).map (·.id))) (restOf a1 a2 a3 (l.drop b.toNat)) → K sh ss sr 0 u') :
    C.flat_Search s t k b u K :=
  spec.flat_Search hs ht hbad fun h1 h2 h3 h4 h5 sh ss sr u' _ ha => by
    obtain ⟨a1, a2, a3, ho⟩ := ha.own
    exact hok (srchErr_ok.2 ⟨h1, h2, h3, h4, h5⟩) sh ss sr a1 a2 a3 u' ho

theorem AnsR.nil (u : H) : AnsR u ⟨none, 0, 0⟩ ⟨none, 0, 0⟩ ⟨none, 0, 0⟩ [] [] [] :=
  ⟨(OwnF.nil (H.le.refl u) 0 3).own.seg, Ints.nil u, (OwnF.nil (H.le.refl u) 0 6).own.seg, fun r hr => by cases hr⟩

theorem law.FlatSearch {s t : Sl} {l : List Rw} {q : List Int} {k b : Int} {u : H} {K : Bool → H → Prop} (hc : Come u s t l q) (h : ∀ u', u.le u' → K true u') : C.theodolitelaw05_FlatSearch s t k b u K := by
  have hqn := hc.q.len
  apply vc.theodolitelaw05_FlatSearch
  refine spec.theodolitelaw05_big' hc ⟨fun _ => h u (H.le.refl u), fun hb => by cases hb⟩ fun hl hq hv => ⟨fun hb => (by cases hb), fun _ => ?_⟩
  have ask : ∀ {v : H} {A : Int → H → Prop}, u.le v → A (srchErr l q k b) v → C.theodoliteref05_Asked s t v fun (x7 : Int) (u8 : H) => ∀ K9 : Int → H → Prop, (∀ x10 : Int, ∀ u11 : H, A x10 u11 → K9 x10 u11) →
      ((x7 = 0) → C.theodoliteref05_Searched t (t.n : Int) k b u8 (fun (x30 : Int) (u31 : H) => K9 x30 u31)) ∧ ((¬ (x7 = 0)) → K9 x7 u8) := by
    intro v A hle hA
    refine spec.theodoliteref05_Asked (hc.rows.mono hle) (hc.q.mono hle) fun K9 hK9 => ⟨fun he => ?_, fun hne => ?_⟩
    · refine spec.theodoliteref05_Searched (hc.q.mono hle) (hK9 _ _ ?_)
      have hqok := asked_ok.1 he
      have hv0 : vcheck q (t.n : Int) = 0 := by rw [hqn]; exact ok_vcheck hqok.vq (by have := hqok.rows.dim; omega)
      unfold srchErr at hA
      rw [if_neg (by omega)] at hA
      rw [if_neg (by omega)]
      exact hA
    · have e : srchErr l q k b = asked l q := if_pos hne
      rw [e] at hA
      exact hK9 _ _ hA
  refine spec.Search' hc.rows hc.q (fun hne => ?_) fun he sh ss sr a1 a2 a3 u6 ha => ?_
  · refine ask (H.le.refl u) ⟨fun hx => absurd rfl hx, fun _ => ⟨fun _ => spec.theodolitelaw05_awake fun u13 l13 => ⟨fun _ => ?_, fun hb => by cases hb⟩, fun h0 => absurd h0 hne⟩⟩
    exact spec.theodolitekeep_Answer (AnsR.nil u13) (AnsR.nil u13) rfl (h u13 l13)
  obtain ⟨hqok, k1, k2, b1, b2⟩ := srchErr_ok.1 he
  refine ask ha.le ?_
  rw [he]
  have hlen := hqok.rows.len
  have hsl : (sortI ((l.take b.toNat).map (·.id))).length = min b.toNat l.length := by rw [sortI_len, List.length_map, List.length_take]
  have obeys : ∀ {v : H} {K' : Bool → H → Prop} {sh ss sr a1 a2 a3 : Sl}, u.le v → AnsR v sh ss sr (topk k.toNat ((l.take b.toNat).map (hitOf q))) (sortI ((l.take b.toNat).map (·.id))) (restOf a1 a2 a3 (l.drop b.toNat)) → K' true v →
      C.theodoliteref05_Obeys s t k b sh ss sr v K' := fun hle hr hK' =>
    spec.theodoliteref05_Obeys (hc.rows.mono hle) (hc.q.mono hle) hqok (by omega) hr (flat_sound hqok _ _ _) (by rw [hsl]; omega) (by rw [hsl]; omega) hK'
  refine ⟨fun hx => absurd rfl hx, fun _ => ⟨fun h0 => absurd rfl h0, fun _ => obeys ha.le ha.read ⟨fun hb => absurd rfl hb, fun _ => ?_⟩⟩⟩
  refine spec.Search' (hc.rows.mono ha.le) (hc.q.mono ha.le) (fun hne => absurd he hne) fun _ sh' ss' sr' c1 c2 c3 u22 hb => ?_
  refine spec.theodolitekeep_Answer (ha.mono hb.le).read hb.read (restOf_core _ _ _ _ _ _ _) ?_
  have hco : ∀ r ∈ restOf a1 a2 a3 (l.drop b.toNat), (∀ x ∈ r.lo, coordOk x) ∧ ∀ x ∈ r.hi, coordOk x := by
    intro r hr
    obtain ⟨hreg, _⟩ := (flat_sound (k := k) (b := b) hqok a1 a2 a3).reg r hr
    unfold restOf at hr
    split at hr
    · cases hr
    · rename_i hne
      obtain rfl : r = ⟨2, a1, a2, 0, a3, boxLo (l.drop b.toNat), boxHi (l.drop b.toNat), sortI ((l.drop b.toNat).map (·.id))⟩ := List.mem_singleton.1 hr
      obtain ⟨_, _, b3, b4, _⟩ := box_ok (hqok.rows.sub (List.drop_sublist b.toNat l)) hne
      have all : ∀ {v : List Int}, vok v → ∀ x ∈ v, coordOk x := fun hv x hx => by
        obtain ⟨i, hi, rfl⟩ := List.getElem_of_mem hx
        have := hv.2 i hi
        rwa [List.getD_eq_getElem?_getD, List.getElem?_eq_getElem hi] at this
      exact ⟨all b3, all b4⟩
  refine spec.theodolitekeep_Spoil (ha.mono hb.le) hco fun u25 l25 hk25 => ?_
  have hB25 := hb.else (u' := u25) fun x o h1 h2 => hk25 x o h2 fun s hs hg => ha.known s hs x hg h1
  refine spec.theodolitelaw05_awake fun u27 l27 => ⟨fun _ => ⟨fun _ => ⟨fun _ => ?_, fun hb => by cases hb⟩, fun hne => absurd rfl hne⟩, fun hb => by cases hb⟩
  exact obeys (l25.trans l27) (hB25.mono l27) (h u27 (l25.trans l27))

end Go.Proofs.YtgfafpiinencpaaGreat
