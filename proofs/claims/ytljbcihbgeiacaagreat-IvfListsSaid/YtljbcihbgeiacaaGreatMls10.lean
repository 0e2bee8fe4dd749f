/- Texts of mine, joined by merge.py: VcIvLs, VcLawLs. -/
import Derived.Test.YtljbcihbgeiacaaGreatMls9
set_option maxRecDepth 100000

/- VcIvLs -/
namespace Go.Proofs.YtljbcihbgeiacaaGreat

/-- One vector more, made of late. -/
theorem VcsO.push {u0 u u1 : H} {s t : Sl} {cs : List (Sl × List Int)} {v : List Int} (h : VcsO u0 u s cs) (ht : OwnF u u1 3 1 t (v.flatMap encI)) (hn : s.n ≤ 1000000) {K : Sl → H → Prop}
    (hK : ∀ s' u', VcsO u0 u' s' (cs ++ [(t, v)]) → K s' u') :
    SemT Tryz.prog (Instr.buildSlice 68 1 #[(0, .slice t.a t.n t.c)]) [.one .slice] u1 fun s1 u2 => SemT Tryz.prog (Builtin.append_ #[68, 68] 68 #[.slice s.a s.n s.c, .slice s1.a s1.n s1.c]) [.one .slice] u2 K := by
  have h1 := h.mono ht.le
  have hu0 : u0.le u := h.own.le
  have fart : ∀ {e k : Nat} {x : Sl} {xs : List Value}, OwnF u0 u e k x xs → Far x t := fun hx => OwnF.far hx (H.le.refl u) ht
  refine sem_push' tVecs (build_vecs1 t) (by decide) rfl (by simp [Value.oneCell']) h1.own (by omega) (by omega) fun s' u' ho' _ he' hbl _ => hK s' u' ⟨?_, fun z hz => ?_, fun z hz => ?_, ?_⟩
  · rw [List.flatMap_append]; exact ho'
  · rcases List.mem_append.1 hz with hz | hz
    · exact OwnF.else (e := 0) (h1.inner z hz) he' h.own.fresh (h.far z hz)
    · obtain rfl := List.mem_singleton.1 hz
      exact OwnF.else (e := 0) (ht.weaken hu0) he' h.own.fresh (fart h.own)
  · have far : ∀ {k : Sl} {xs : List Value}, OwnF u0 u1 3 1 k xs → Far s k → Far s' k := fun hk hf g hg hkg => by
      rcases hbl g hg with h2 | h2
      · exact hf g h2 hkg
      · exact own_known hk hkg h2
    rcases List.mem_append.1 hz with hz | hz
    · exact far (h1.inner z hz) (h.far z hz)
    · obtain rfl := List.mem_singleton.1 hz
      exact far (ht.weaken hu0) (fart h.own)
  · rw [List.pairwise_append]
    refine ⟨h.apart, List.pairwise_singleton _ _, fun a ha b hb => ?_⟩
    obtain rfl := List.mem_singleton.1 hb
    exact fart (h.inner a ha)

/-- One vector of them grows, where it lies or elsewhere. -/
theorem VcsO.regrow {u0 u u1 : H} {s t : Sl} {cs : List (Sl × List Int)} {v : List Int} (h : VcsO u0 u s cs) {i : Nat} {c : Sl × List Int} (hi : cs[i]? = some c) (ht : OwnF u0 u1 3 1 t (v.flatMap encI)) (he : Else u u1 c.1) (hb : ∀ g, t.blk = some g → c.1.blk = some g ∨ u g = Option.none)
    {p : Addr} (hp : s.a = some p) {f : H → Prop} (hf : ∀ u', VcsO u0 u' s (cs.set i (t, v)) → Else u1 u' s → f u') : H.St u1 (p.add (i * 1)) [.slice t.a t.n t.c] f := by
  have hc := List.mem_of_getElem? hi
  have hil : i < cs.length := (List.getElem?_eq_some_iff.1 hi).1
  have ei : cs[i] = c := (List.getElem?_eq_some_iff.1 hi).2
  have other : ∀ z k, k ≠ i → cs[k]? = some z → Far c.1 z.1 := fun z k hk hz => by
    have hkl := (List.getElem?_eq_some_iff.1 hz).1
    have ek := (List.getElem?_eq_some_iff.1 hz).2
    rcases Nat.lt_or_gt_of_ne hk with h1 | h1
    · have := List.pairwise_iff_getElem.1 h.apart k i hkl hil h1
      rw [ek, ei] at this
      exact this.symm
    · have := List.pairwise_iff_getElem.1 h.apart i k hil hkl h1
      rw [ek, ei] at this
      exact this
  have hcf : ∀ g, c.1.blk = some g → u0 g = Option.none := (h.inner c hc).fresh
  have own1 : OwnF u0 u1 41 1 s (cs.flatMap fun c => encS c.1) := OwnF.else (e := 0) h.own he hcf (h.far c hc).symm
  have fart : ∀ {e k : Nat} {x : Sl} {xs : List Value}, OwnF u0 u e k x xs → Far c.1 x → Far x t := fun hx hf g hg htg => by
    rcases hb g htg with h2 | h2
    · exact hf g h2 hg
    · exact own_known hx hg h2
  refine OwnF.store (enc := fun c : Sl × List Int => encS c.1) encS_len own1 (by decide) (i := i) hil (y := (t, v)) (by simp [encS, Value.oneCell']) hp fun u' ho he' _ => hf u' ⟨ho, fun z hz => ?_, fun z hz => ?_, ?_⟩ he'
  · rcases mem_set hz with rfl | ⟨k, hk, hz⟩
    · exact OwnF.else (e := 0) ht he' h.own.fresh (fart h.own (h.far c hc).symm)
    · have hzm := List.mem_of_getElem? hz
      exact OwnF.else (e := 0) (OwnF.else (e := 0) (h.inner z hzm) he hcf (other z k hk hz)) he' h.own.fresh (h.far z hzm)
  · rcases mem_set hz with rfl | ⟨k, hk, hz⟩
    · exact fart h.own (h.far c hc).symm
    · exact h.far z (List.mem_of_getElem? hz)
  · exact pair_set h.apart (fun a b h => h.symm) fun k z hk hz => fart (h.inner z (List.mem_of_getElem? hz)) (other z k hk hz)

theorem Iv.spec.Centres {u0 u : H} {fp : Nat → Option Iv.Tg} {b : Nat} {T : Tr} {K : Sl → H → Prop} (h : Iv.In u0 u fp b T) (hT : Iv.TOk T) (hK : ∀ s u' cs, VcsO u u' s cs → cs.map (·.2) = T.links → K s u') : C.ivf_Tree__Centres (some ⟨b, 0, none⟩) u K := by
  have hv : VcsAt u T.sc T.cs := ⟨h.tr.carr, fun c hc => by
    obtain ⟨i, hi, rfl⟩ := List.getElem_of_mem hc
    exact (h.tr.cvec i _ (List.getElem?_eq_getElem hi)).1⟩
  have hn := hv.len
  have hm := hT.many
  have hd := hT.dm
  have c1 : u.cell? ((⟨b, 0, none⟩ : Addr).add 1) = some (.slice T.sc.a T.sc.n T.sc.c) := H.cell?_of h.tr.cell 1
  apply vc.ivf_Tree__Centres
  refine ⟨fun e => (by cases e), fun _ => ⟨_, rfl, _, c1, ?_⟩⟩
  refine ⟨fun s x w => 0 ≤ x ∧ x ≤ T.sc.n ∧ ∃ cs, VcsO u w s cs ∧ cs.map (·.2) = (T.cs.take x.toNat).map (·.2), fun _ x _ => ((T.sc.n : Int) - x).toNat, ⟨by omega, by omega, [], ⟨OwnF.nil (H.le.refl u) _ _, fun c hc => (by cases hc), fun c hc => (by cases hc), .nil⟩, rfl⟩, ?_⟩
  rintro s x w ⟨x0, x1, cs, hcs, he⟩
  refine ⟨fun hx => ?_, fun hx => ?_⟩
  · obtain ⟨p, hp, c, hcx, hcm, cc, hci⟩ := (hv.mono hcs.own.le).at x0 hx
    have hcl := (hT.cvok c hcm).1
    have hcin := hci.len
    have hsl : s.n = x.toNat := by
      have := congrArg List.length he
      rw [List.length_map, List.length_map, List.length_take] at this
      have h2 : s.n = cs.length := hcs.len
      omega
    refine ⟨p, hp, ⟨x0, hx⟩, _, cc, spec.slices_Clone___int_int_ hci (by omega) fun s9 u10 ho _ => ?_⟩
    refine hcs.push ho (by show s.n ≤ _; omega) fun s' u' hcs' => ⟨⟨by omega, by omega⟩, ⟨by omega, by omega, _, hcs', ?_⟩, by dsimp only; omega⟩
    rw [List.map_append, he, show (x + 1).toNat = x.toNat + 1 by omega, List.take_add_one, hcx, List.map_append]
    rfl
  · refine hK s w cs hcs ?_
    rw [he, List.take_of_length_le (by omega)]
    rfl

theorem Iv.spec.ListAt {u0 u : H} {fp : Nat → Option Iv.Tg} {b : Nat} {T : Tr} {i : Int} {K : Sl → Int → H → Prop} (h : Iv.In u0 u fp b T) (hT : Iv.TOk T) (hbad : i < 0 ∨ (T.ls.length : Int) ≤ i → K ⟨none, 0, 0⟩ 1 u)
    (hK : 0 ≤ i → ∀ l, T.ls[i.toNat]? = some l → ∀ s u', OwnF u u' 3 1 s ((sortI (l.2.map (·.id))).flatMap encI) → K s 0 u') : C.ivf_Tree__List (some ⟨b, 0, none⟩) i u K := by
  have hln : T.sl.n = T.ls.length := flat_n (enc := fun l : Sl × List Rw => encS l.1) (fun _ => rfl) (by decide) h.tr.larr.seg
  have c2 : u.cell? ((⟨b, 0, none⟩ : Addr).add 2) = some (.slice T.sl.a T.sl.n T.sl.c) := H.cell?_of h.tr.cell 2
  apply vc.ivf_Tree__List
  intro K0 h0
  refine ⟨fun e => (by cases e), fun _ => ⟨fun hx => hbad (.inl hx), fun i0 => ⟨_, rfl, _, c2, fun hx => hbad (.inr (by omega)), fun hx => h0 ⟨none, 0, 0⟩ _ _ ?_⟩⟩⟩
  have hil : i.toNat < T.ls.length := by omega
  obtain ⟨l, hl⟩ : ∃ l, T.ls[i.toNat]? = some l := ⟨_, List.getElem?_eq_getElem hil⟩
  obtain ⟨p, hp, hc⟩ := Seg.elem (enc := fun l : Sl × List Rw => encS l.1) (fun _ => rfl) (by decide) h.tr.larr.seg hl
  have hc0 := hc 0 _ rfl
  rw [Addr.add_zero'] at hc0
  obtain ⟨hat, _, hri⟩ := h.tr.list _ _ hl
  have hR : Rws u l.1 l.2 := ⟨hat.seg, fun r hr => (hri r hr).1⟩
  have hrn := hR.len
  have hsm : l.2.length ≤ 512 := by
    have h1 := hT.small
    rw [hT.wlen] at h1
    have h2 : l.2.length ≤ (T.ls.flatMap (·.2)).length := (List.sublist_flatten_of_mem (List.mem_map_of_mem (f := (·.2)) (List.mem_of_getElem? hl))).length_le
    omega
  refine ⟨_, rfl, _, c2, p, hp, ⟨by omega, by omega⟩, l.1, hc0, ?_⟩
  refine ⟨fun s x w => 0 ≤ x ∧ x ≤ l.1.n ∧ OwnF u w 3 1 s (((l.2.take x.toNat).map (·.id)).flatMap encI), fun _ x _ => ((l.1.n : Int) - x).toNat, ⟨by omega, by omega, OwnF.nil (H.le.refl u) _ _⟩, ?_⟩
  rintro s x w ⟨x0, x1, ho⟩
  have hsn : s.n = x.toNat := by
    have := ho.ints.len
    rw [List.length_map, List.length_take] at this
    have h2 : s.n = min x.toNat l.2.length := this
    omega
  refine ⟨fun hx => ?_, fun hx => ?_⟩
  · obtain ⟨q, hq, r, hr, d0, d1, _⟩ := (hR.mono ho.le).at x0 hx
    refine ⟨q, hq, ⟨x0, hx⟩, _, d0, _, d1, ?_⟩
    refine sem_push' tInts (build_int1 _) (by decide) rfl (by simp [Value.oneCell']) ho (by show s.n < _; omega) (by show (s.n + 1) * _ ≤ _; omega) fun s' u' ho' _ _ _ _ => ⟨⟨by omega, by omega⟩, ⟨by omega, by omega, ?_⟩, by dsimp only; omega⟩
    rw [show (x + 1).toNat = x.toNat + 1 by omega, List.take_add_one, hr, List.map_append, List.flatMap_append]
    exact ho'
  · rw [List.take_of_length_le (by omega)] at ho
    exact spec.slices_Sort___int_int_ ho (by rw [List.length_map]; omega) fun u' ho' _ => hK (by omega) l hl s u' ho'

/-- The document's centres. -/
theorem spec.theodolitelaw09_centres {u : H} {s : Sl} {l : List Rw} {dim A B seed : Int} {K : Sl → H → Prop} (hs : Rws u s l) (hl : Rok l dim) (hA : 1 ≤ A ∧ A ≤ 64) (hB : 0 ≤ B ∧ B ≤ 20)
    (hK : ∀ s' u' cs (P : List Pr), u.le u' → VcsAt u' s' cs → P.Perm (l.map Rw.pr) → (P.Pairwise fun x y => x.1 < y.1) → cs.map (·.2) = Iv.centI seed A B dim.toNat (P.map (·.2)) → K s' u') : C.theodolitelaw09_centres s dim A B seed u K := by
  have hd := hl.dim
  have h512 := hl.len
  apply vc.theodolitelaw09_centres
  refine spec.theodoliteref05_Of hs hl fun n u1 L hn l1 hT hp => ?_
  have hLl : L.length = l.length := by simpa using hp.length_eq
  obtain ⟨ts, v, c, hv, _, hR0⟩ := hT.ex
  have hR := hR0.mono hv
  have htn := hR.len
  have hmem : ∀ r ∈ L, (r.v.length : Int) = dim ∧ vok r.v := fun r hr => by
    obtain ⟨z, hz, e⟩ := List.mem_map.1 (hp.mem_iff.1 (List.mem_map_of_mem (f := Rw.pr) hr))
    have e2 : z.v = r.v := congrArg Prod.snd e
    rw [← e2]
    exact hl.v z hz
  refine ⟨fun y x w => 0 ≤ x ∧ x ≤ ts.n ∧ u1.le w ∧ ∃ Cs : List (Sl × List Int), OwnF u1 w 41 1 y (Cs.flatMap fun c => encS c.1) ∧ Cs = (L.take x.toNat).map fun r => (r.s, r.v), fun _ x _ => ((ts.n : Int) - x).toNat, ⟨by omega, by omega, H.le.refl _, [], OwnF.nil (H.le.refl _) _ _, rfl⟩, ?_⟩
  rintro y x w ⟨x0, x1, lw, Cs, hY, hCs⟩
  have hCsl : Cs.length = x.toNat := by rw [hCs, List.length_map, List.length_take]; omega
  have hyn : y.n = x.toNat := by have := flat_n encS_len (by decide) hY.own.seg; rw [hCsl] at this; exact this
  have c1 : w.cell? ((⟨n, 0, none⟩ : Addr).add 1) = some (.slice ts.a ts.n ts.c) := H.cell?_of (lw _ _ c) 1
  refine ⟨_, rfl, ts, c1, fun hx => ?_, fun hx => ?_⟩
  · obtain ⟨p, hp', r, hr, _, d1, _⟩ := (hR.mono lw).at x0 hx
    refine ⟨_, rfl, ts, c1, p, hp', ⟨x0, hx⟩, r.s, d1, ?_⟩
    refine sem_push' tVecs (build_vecs1 r.s) (by decide) rfl (by simp [Value.oneCell']) hY (by show y.n < _; omega) (by show (y.n + 1) * _ ≤ _; omega) fun s' u' ho' _ _ _ _ => ⟨⟨by omega, by omega⟩, ⟨by omega, by omega, ho'.le, Cs ++ [(r.s, r.v)], ?_, ?_⟩, by dsimp only; omega⟩
    · rw [List.flatMap_append]; exact ho'
    · rw [hCs, show (x + 1).toNat = x.toNat + 1 by omega, List.take_add_one, hr, List.map_append]
      rfl
  · rw [List.take_of_length_le (by omega)] at hCs
    have hV : VcsAt w y Cs := ⟨hY.own.seg, fun c hc => by
      rw [hCs] at hc
      obtain ⟨r, hr, rfl⟩ := List.mem_map.1 hc
      exact (hR.2 r hr).mono lw⟩
    have ev : Cs.map (·.2) = (L.map Rw.pr).map (·.2) := by rw [hCs, List.map_map, List.map_map]; rfl
    refine ⟨fun h0 => ?_, fun h0 => ?_⟩
    · have h0' : y.n = 0 := by omega
      refine sem_make_ints (by omega) (by omega) fun s17 u18 ho17 _ => ?_
      refine sem_build (build_vecs1 s17) fun g hg => ?_
      have m := OwnF.make (k := 1) (H.le.refl u18) hg (cells := [Value.slice s17.a s17.n s17.c].toArray) (e := 41) (n := 1) (by omega) rfl
      refine hK _ _ [(s17, List.replicate dim.toNat 0)] (L.map Rw.pr) ((l1.trans (lw.trans ho17.le)).trans m.le) ⟨m.own.seg, fun c hc => ?_⟩ hp hT.rise ?_
      · obtain rfl := List.mem_singleton.1 hc
        exact ho17.ints.mono m.le
      · have : L = [] := List.eq_nil_of_length_eq_zero (by omega)
        rw [this]
        rfl
    · have hne : Cs.map (·.2) ≠ [] := fun e => by
        have := congrArg List.length e
        rw [List.length_map] at this
        simp only [List.length_nil] at this
        exact h0 (by show ((y.n : Nat) : Int) = 0; omega)
      have hvl : (Cs.map (·.2)).length = y.n := by rw [List.length_map]; omega
      have hyp : 0 < y.n := by have := List.length_pos_iff.2 hne; omega
      obtain ⟨k, hk⟩ : ∃ k, k = (if (y.n : Int) < A then (y.n : Int) else A) := ⟨_, rfl⟩
      have hkb : 1 ≤ k ∧ k ≤ 64 ∧ k ≤ y.n := by rw [hk]; split <;> omega
      show C.theodoliteref06_Train y (if (y.n : Int) < A then (y.n : Int) else A) B seed w _
      rw [← hk]
      refine spec.theodoliteref06_Train (d := dim.toNat) hV (fun c hc => ?_) (by omega) (by omega) ⟨hkb.1, hkb.2.1⟩ (by omega) hB fun s' u' cs l' hV' he => hK s' u' cs (L.map Rw.pr) (l1.trans (lw.trans l')) hV' hp hT.rise ?_
      · rw [hCs] at hc
        obtain ⟨r, hr, rfl⟩ := List.mem_map.1 hc
        have := hmem r hr
        exact ⟨by show r.v.length = _; omega, this.2⟩
      · rw [he, ← ev]
        unfold Iv.centI
        rw [if_neg hne, hvl, ← hk]

/-- The document's lists. -/
def listsI (cs : List (List Int)) (L : List Rw) (k : Nat) : List (List Int) := (List.range k).map fun a => (L.filter fun r => decide (nearI cs r.v = a)).map (·.id)

theorem spec.theodolitelaw09_lists {u : H} {s : Sl} {cs : List (Sl × List Int)} {n : Nat} {dim : Int} {L : List Rw} {K : Sl → H → Prop} (hV : VcsAt u s cs) (hcs : CsOk cs dim) (hT : TabAt u n dim L) (hL : Rok L dim)
    (hK : ∀ s' u' C', VcsO u u' s' C' → C'.map (·.2) = listsI (cs.map (·.2)) L cs.length → K s' u') : C.theodolitelaw09_lists s (some ⟨n, 0, none⟩) u K := by
  have hm := hcs.many
  have hsn := hV.len
  have h512 := hL.len
  obtain ⟨ts, v, c, hv, _, hR0⟩ := hT.ex
  have hR := hR0.mono hv
  have htn := hR.len
  apply vc.theodolitelaw09_lists
  refine sem_make_vecs (by omega) (by omega) fun s0 u1 hS0 hs0n => ?_
  have hk : ((s.n : Int)).toNat = cs.length := by omega
  rw [hk] at hS0
  refine ⟨fun x w => 0 ≤ x ∧ x ≤ ts.n ∧ ∃ Cs, VcsO u w s0 Cs ∧ Cs.length = cs.length ∧ ∀ (a : Nat) c, Cs[a]? = some c → c.2 = ((L.take x.toNat).filter fun r => decide (nearI (cs.map (·.2)) r.v = a)).map (·.id), fun x _ => ((ts.n : Int) - x).toNat, ⟨by omega, by omega, _, hS0, by simp, fun a c hac => ?_⟩, ?_⟩
  · rw [List.getElem?_replicate] at hac
    split at hac
    · obtain rfl := Option.some.inj hac; rfl
    · cases hac
  rintro x w ⟨x0, x1, Cs, hS, hCl, hCv⟩
  have lw := hS.own.le
  have c1 : ∀ {w : H}, u.le w → w.cell? ((⟨n, 0, none⟩ : Addr).add 1) = some (.slice ts.a ts.n ts.c) := fun lw => H.cell?_of (lw _ _ c) 1
  refine ⟨_, rfl, ts, c1 lw, fun hx => ?_, fun hx => ?_⟩
  · obtain ⟨p, hp, r, hr, d0, d1, hri⟩ := (hR.mono lw).at x0 hx
    have hrm := List.mem_of_getElem? hr
    obtain ⟨rd, rv⟩ := hL.v r hrm
    refine ⟨_, rfl, ts, c1 lw, p, hp, ⟨x0, hx⟩, r.s, d1, spec.theodoliteref06_Nearest (hV.mono lw) hcs hri rv rd fun _ _ _ _ _ => ?_⟩
    obtain ⟨at', hat⟩ : ∃ at', at' = nearI (cs.map (·.2)) r.v := ⟨_, rfl⟩
    have hatk : at' < cs.length := by rw [hat]; have := nearTo_lt (cs.map (·.2)) r.v (cs.map (·.2)).length (by rw [List.length_map]; omega); rw [List.length_map] at this; unfold nearI; rw [List.length_map]; exact this
    rw [← hat]
    have hS0n := hS.len
    obtain ⟨q, hq, z, hz, hzm, cz, hzi⟩ := hS.vcs.at (x := (at' : Int)) (by omega) (by omega)
    rw [Int.toNat_natCast] at hz cz
    have hzv := hCv at' z hz
    have hzl : z.2.length ≤ L.length := by rw [hzv, List.length_map]; exact Nat.le_trans (List.length_filter_le _ _) (by rw [List.length_take]; omega)
    have hzn := hzi.len
    refine ⟨q, hq, ⟨by omega, by omega⟩, _, rfl, z.1, by rw [Int.toNat_natCast]; exact cz, ts, c1 lw, p, hp, ⟨x0, hx⟩, r.id, d0, ?_⟩
    refine sem_push tInts (build_int1 r.id) (by decide) rfl (by simp [Value.oneCell']) (hS.inner z hzm) (by omega) (by omega) fun s' u' ho' _ he' hbl _ => ⟨q, hq, ⟨by omega, by omega⟩, ?_⟩
    rw [Int.toNat_natCast]
    have ho2 : OwnF u u' 3 1 s' ((z.2 ++ [r.id]).flatMap encI) := by rw [List.flatMap_append]; exact ho'
    refine hS.regrow hz ho2 he' hbl hq fun u27 hS' _ => ⟨⟨by omega, by omega⟩, ⟨by omega, by omega, _, hS', by rw [List.length_set]; exact hCl, fun a c hac => ?_⟩, by dsimp only; omega⟩
    have hstep : (L.take (x + 1).toNat) = L.take x.toNat ++ [r] := by rw [show (x + 1).toNat = x.toNat + 1 by omega, List.take_add_one, hr]; rfl
    rw [hstep, List.filter_append, List.map_append]
    rcases get_set hac with ⟨rfl, rfl⟩ | ⟨e, hac⟩
    · rw [← hzv]
      simp [hat]
    · rw [hCv a c hac]
      simp [← hat, Ne.symm e]
  · refine hK s0 w Cs hS ?_
    rw [List.take_of_length_le (by omega)] at hCv
    apply List.ext_getElem?
    intro a
    unfold listsI
    rw [List.getElem?_map, List.getElem?_map]
    by_cases ha : a < cs.length
    · have hCa : Cs[a]? = some Cs[a] := List.getElem?_eq_getElem (by omega)
      rw [hCa, List.getElem?_range ha, Option.map_some, hCv a _ hCa]
      rfl
    · rw [List.getElem?_eq_none (by omega), List.getElem?_eq_none (by simp; omega)]
      rfl

end Go.Proofs.YtljbcihbgeiacaaGreat

/- VcLawLs -/
namespace Go.Proofs.YtljbcihbgeiacaaGreat

theorem ixErr_way {l : List Rw} {d A B : Int} (h : ixErr l d A B = 0) : (1 ≤ A ∧ A ≤ 64) ∧ 0 ≤ B ∧ B ≤ 20 := by
  unfold ixErr Iv.ixErr at h
  split at h
  · rename_i h1; exact absurd h h1
  · split at h
    · cases h
    · omega

theorem filter_lists {f : Rw → Nat} : ∀ (ls : List (Sl × List Rw)) (k a : Nat), (∀ (i : Nat) l, ls[i]? = some l → ∀ r ∈ l.2, f r = k + i) → (ls.flatMap (·.2)).filter (fun r => decide (f r = k + a)) = ((ls[a]?).map (·.2)).getD [] := by
  intro ls
  induction ls with
  | nil => intro k a _; rfl
  | cons l ls ih =>
    intro k a h
    have hrest := ih (k + 1) (a - 1) (fun i l' hi r hr => by have := h (i + 1) l' (by simpa using hi) r hr; omega)
    have h0 := h 0 l rfl
    rw [List.flatMap_cons, List.filter_append]
    cases a with
    | zero =>
      have e1 : l.2.filter (fun r => decide (f r = k + 0)) = l.2 := List.filter_eq_self.2 fun r hr => decide_eq_true (h0 r hr)
      have e2 : (ls.flatMap (·.2)).filter (fun r => decide (f r = k + 0)) = [] := List.filter_eq_nil_iff.2 fun r hr => by
        obtain ⟨l', hl', hr'⟩ := List.mem_flatMap.1 hr
        obtain ⟨i, hi, rfl⟩ := List.getElem_of_mem hl'
        have := h (i + 1) ls[i] (by simp [hi]) r hr'
        simp [this]
      rw [e1, e2, List.append_nil]
      rfl
    | succ a =>
      have e1 : l.2.filter (fun r => decide (f r = k + (a + 1))) = [] := List.filter_eq_nil_iff.2 fun r hr => by
        have := h0 r hr
        simp [this]
      rw [e1, List.nil_append]
      have e3 : k + 1 + (a + 1 - 1) = k + (a + 1) := by omega
      rw [e3] at hrest
      rw [hrest]
      rfl

theorem lists_at {X : Tr} (hT : Iv.TOk X) {L : List Rw} (hp : (ixRows X).Perm (L.map Rw.pr)) (hs : (L.map Rw.pr).Pairwise fun a b => a.1 < b.1) {a : Nat} {l : Sl × List Rw} (hl : X.ls[a]? = some l) {c : List Int} (hc : (listsI X.links L X.cs.length)[a]? = some c) : c = sortI (l.2.map (·.id)) := by
  unfold listsI at hc
  have hal := (List.getElem?_eq_some_iff.1 hl).1
  have hm := hT.many.1
  rw [List.getElem?_map, List.getElem?_range (by omega)] at hc
  have hc' := Option.some.inj hc
  rw [← hc']
  refine sortI_of ?_ ?_
  · have hf := filter_lists (f := fun r => nearI X.links r.v) X.ls 0 a (fun i l' hi r hr => by
      have := hT.near i l' hi r hr
      rw [Nat.zero_add, ← this]
      unfold nearI Iv.Tr.links
      rw [List.length_map])
    rw [hl] at hf
    simp only [Nat.zero_add, Option.map_some, Option.getD_some] at hf
    have e1 : ∀ M : List Rw, (M.filter fun r => decide (nearI X.links r.v = a)).map (·.id) = ((M.map Rw.pr).filter fun p => decide (nearI X.links p.2 = a)).map (·.1) := fun M => by
      rw [List.filter_map, List.map_map]
      rfl
    show ((L.filter fun r => decide (nearI X.links r.v = a)).map (·.id)).Perm _
    rw [e1, ← hf, e1]
    exact ((hp.symm.filter _).map _)
  · rw [List.pairwise_map] at hs
    show List.Pairwise _ _
    rw [List.pairwise_map]
    exact (hs.sublist List.filter_sublist).imp fun h => Int.le_of_lt h

theorem law.IvfLists {s t : Sl} {l : List Rw} {ops : List Cll} {dim A B seed : Int} {u : H} {K : Bool → H → Prop} (hTab : TabU u) (hc : Come2 u s t l ops) (hU : U64 seed) (h : ∀ u', u.le u' → K true u') :
    C.theodolitelaw09_IvfLists s dim A B seed t u K := by
  apply vc.theodolitelaw09_IvfLists
  refine spec.theodolitelaw09_big hc ⟨fun _ => h u (H.le.refl u), fun e => (by cases e)⟩ fun hl _ hv hvo => ⟨fun e => (by cases e), fun _ => ?_⟩
  have htn := hc.tn
  refine spec.ix_Build hc.rows hTab hU (fun hne => ?_) (fun he b D X u4 hX hp hdim hway => ?_)
  · intro K5 h5
    exact ⟨fun _ => spec.theodolitelaw09_awake hTab h, fun e => absurd e hne⟩
  intro K5 h5
  refine ⟨fun hx => absurd rfl hx, fun _ => ⟨fun e => (by cases e), fun _ => h5 _ _ ?_⟩⟩
  clear h5 K5
  have hb4 := Ix.base hX
  have hrok := ixErr_rok he
  obtain ⟨hA, hB⟩ := ixErr_way he
  let K0 : Sl → H → Prop := fun s' v' => ∃ (cs : List (Sl × List Int)) (P : List Pr), u.le v' ∧ VcsAt v' s' cs ∧ P.Perm (l.map Rw.pr) ∧ (P.Pairwise fun x y : Pr => x.1 < y.1) ∧ cs.map (·.2) = Iv.centI seed A B dim.toNat (P.map (·.2))
  have hcc : C.theodolitelaw09_centres s dim A B seed u K0 := spec.theodolitelaw09_centres hc.rows hrok hA hB fun s' u' cs P h1 h2 h3 h4 h5 => ⟨cs, P, h1, h2, h3, h4, h5⟩
  refine hcc.frame hb4.1 ?_
  rintro s8 ub u9 hf ⟨cs, P, lub, hV, hPp, hPs, hcs⟩
  have hD : ∀ c, D c → ub c = none ∧ ∀ o, u4 c = some o → u9 c = some o := fun c hd => by
    cases hx : u4 c with
    | none => exact absurd hx (hb4.2.2 c hd)
    | some o =>
      obtain ⟨h1, h2⟩ := hf.out c o (hb4.2.1 c hd) hx
      exact ⟨h1, fun o' ho' => by rw [← ho']; exact h2⟩
  have i9 : Ix ub u9 D b X := by
    have h0 : Ix u u9 D b X := Ix.same hX (fun c o hc hd => (hD c hd).2 o hc) (lub.trans hf.le)
    obtain ⟨fp, h1, h2, h3⟩ := IxG.ex h0
    exact ⟨fp, h1, ⟨h2.tr, hf.le, fun c hc => (hD c ((h1 c).2 hc)).1, h2.known⟩, h3⟩
  have hb9 := Ix.base i9
  have hTab' : TabU ub := trivial
  refine spec.tabOf hb9.1 hb9.2.1 hb9.2.2 (hc.rows.mono lub) hrok fun n u11 L hst hk hpL => ?_
  have st0 : TSt ub u11 D b X n L := ⟨Ix.same i9 hk hst.le, hdim.symm ▸ hst, hp.trans hpL.symm, hdim.symm ▸ rok_perm hrok hpL⟩
  refine ⟨fun x v => 0 ≤ x ∧ ∃ D X' L, TSt ub v D b X' n L ∧ X'.dim = dim ∧ X'.links = X.links, fun x _ => ((t.n : Int) - x).toNat, ⟨by omega, D, X, L, st0, hdim, rfl⟩, fun x v hI => ⟨fun hx => ?_, fun hx => ?_⟩⟩
  · obtain ⟨h0, D, X', L, hst, hd', hl'⟩ := hI
    obtain ⟨p, hp, o, _, hmem, c0, c1, c2, c3, c4, c5, c6, _, _⟩ := (hc.calls.mono (lub.trans hst.le)).at h0 hx
    refine ⟨p, hp, ⟨h0, hx⟩, _, c0, _, c1, _, c2, _, c3, _, c4, _, c5, _, c6, ?_⟩
    obtain ⟨hov, hoq⟩ := hc.calls.2 o hmem
    have hb := hvo o hmem
    refine spec.theodolitelaw09_step hst hTab' (hov.mono lub) (hoq.mono lub) (by omega) (by omega) fun u' D' X2 L' h' e1 e2 => ⟨⟨by omega, by omega⟩, ⟨by omega, D', X2, L', h', e1.trans hd', e2.trans hl'⟩, by dsimp only; omega⟩
  · obtain ⟨h0, D, X', L, hst, hd', hl'⟩ := hI
    obtain ⟨fp, h1, h2, h3⟩ := IxG.ex hst.ix
    refine Iv.spec.Centres h2 h3 fun s26 u27 cc hcc hcl => ?_
    obtain ⟨P', q1, q2, q3⟩ := hway
    have eP : P' = P := pr_rise_eq q2 hPs (q1.trans hPp.symm)
    have elinks : X'.links = cs.map (·.2) := by rw [hl', q3, eP, ← hcs]
    have lbv : ub.le v := hst.le
    have lv27 : v.le u27 := hcc.own.le
    have hcl' : cc.map (·.2) = cs.map (·.2) := hcl.trans elinks
    have hX'cs : X'.cs.map (·.2) = cs.map (·.2) := elinks
    have hcsl : cs.length = X'.cs.length := by have := congrArg List.length hX'cs; simpa using this.symm
    have hccl : cc.length = cs.length := by have := congrArg List.length hcl'; simpa using this
    have hm := h3.many
    have hdm := h3.dm
    have hcsok : ∀ c ∈ cs, (c.2.length : Int) = dim ∧ vok c.2 := fun c hc => by
      have : c.2 ∈ X'.cs.map (·.2) := by rw [hX'cs]; exact List.mem_map_of_mem hc
      obtain ⟨z, hz, e⟩ := List.mem_map.1 this
      have := h3.cvok z hz
      rw [e, hd'] at this
      exact this
    refine spec.theodoliteref06_Same hcc.vcs (hV.mono (lbv.trans lv27)) (by omega) hcl' ⟨fun e => absurd rfl e, fun _ => ?_⟩
    have hs26 := hcc.len
    refine ⟨fun x w => 0 ≤ x ∧ ∃ cc', VcsO v w s26 cc' ∧ cc'.length = cs.length ∧ ∀ c ∈ cc', (c.2.length : Int) = dim, fun x _ => ((s26.n : Int) - x).toNat, ⟨by omega, cc, hcc, hccl, fun c hc => ?_⟩, ?_⟩
    · have : c.2 ∈ cs.map (·.2) := by rw [← hcl']; exact List.mem_map_of_mem hc
      obtain ⟨z, hz, e⟩ := List.mem_map.1 this
      rw [← e]
      exact (hcsok z hz).1
    rintro x w ⟨x0, cc', hcc', hccl', hcd⟩
    refine ⟨fun hx => ?_, fun hx => ?_⟩
    · obtain ⟨p, hp, c, hcx, hcm, c0, hci⟩ := hcc'.vcs.at x0 hx
      have hcn := hci.len
      have hcl2 := hcd c hcm
      obtain ⟨q, hq, _⟩ := hci.at (x := 0) (by omega) (by omega)
      refine ⟨p, hp, ⟨x0, hx⟩, c.1, c0, q, hq, ⟨by omega, by omega⟩, ?_⟩
      refine hcc'.setv hcx (j := 0) (by omega) hq fun u37 hcc2 _ => ⟨⟨by omega, by omega⟩, ⟨by omega, _, hcc2, by rw [List.length_set]; exact hccl', fun z hz => ?_⟩, by dsimp only; omega⟩
      rcases mem_set hz with rfl | ⟨j, _, hj⟩
      · rw [List.length_set]; exact hcl2
      · exact hcd z (List.mem_of_getElem? hj)
    · have lvw : v.le w := hcc'.own.le
      obtain ⟨uT, g1, _, g3, _, _⟩ := hst.tab.ex
      rw [hd'] at g3
      have hTw : TabAt w n dim L := (g3.keep g1).keep lvw
      have hLok : Rok L dim := hd' ▸ hst.ok
      refine spec.theodolitelaw09_lists (hV.mono (lbv.trans lvw)) ⟨by omega, by omega, hcsok⟩ hTw hLok fun s38 u39 C' hC' hCe => ?_
      have hs38 := hC'.len
      have hC'l : C'.length = cs.length := by have := congrArg List.length hCe; simpa [listsI] using this
      refine ⟨fun _ x z => -1 ≤ x ∧ x ≤ s38.n + 1 ∧ u39.le z, fun _ x _ => ((s38.n : Int) + 1 - x).toNat, ⟨by omega, by omega, H.le.refl _⟩, ?_⟩
      rintro b42 x z ⟨x0, x1, hz⟩
      have luz : u.le z := lub.trans (lbv.trans (lvw.trans (hC'.own.le.trans hz)))
      refine ⟨fun hx => ?_, fun hx => spec.theodolitelaw09_awake (hTab.mono luz) fun u' l' => h _ (luz.trans l')⟩
      intro K45 h45
      refine Iv.spec.ListAt (InG.mono Iv.keep h2 (lvw.trans (hC'.own.le.trans hz))) h3 (fun hb => ?_) (fun i0 ll hll s48 u50 ho => ?_)
      · intro K51 h51
        have go : K51 true z := h51 _ _ ⟨fun _ => ⟨fun e => absurd rfl e, fun _ => ⟨fun e => absurd e (by decide), fun _ => h45 _ _ ⟨⟨by omega, by omega⟩, ⟨by omega, by omega, hz⟩, by dsimp only; omega⟩⟩⟩, fun e => (by cases e)⟩
        refine ⟨fun _ => go, fun hn => ?_⟩
        have e : x = (s38.n : Int) := by omega
        rw [decide_eq_true e]
        exact go
      · intro K51 h51
        refine ⟨fun hn => by omega, fun _ => ?_⟩
        have hlt := (List.getElem?_eq_some_iff.1 hll).1
        rw [decide_eq_false (by omega)]
        refine h51 _ _ ⟨fun e => (by cases e), fun _ => ⟨fun e => absurd rfl e, fun _ => ?_⟩⟩
        obtain ⟨p, hp', c, hcx, hcm, c0, hci⟩ := (hC'.vcs.mono (hz.trans ho.le)).at (x := x) i0 (by omega)
        refine ⟨p, hp', ⟨i0, by omega⟩, _, c0, spec.theodolitekeep_Ints ho.ints hci ?_⟩
        have hcx2 : (listsI X'.links L X'.cs.length)[x.toNat]? = some c.2 := by
          rw [elinks, ← hcsl, ← hCe, List.getElem?_map, hcx]; rfl
        have ee := lists_at h3 hst.perm hst.tab.rise hll hcx2
        rw [decide_eq_true ee.symm]
        exact ⟨fun e => absurd rfl e, fun _ => h45 _ _ ⟨⟨by omega, by omega⟩, ⟨by omega, by omega, hz.trans ho.le⟩, by dsimp only; omega⟩⟩

end Go.Proofs.YtljbcihbgeiacaaGreat
