/- Texts of mine, joined by merge.py: VcLawT7, VcLawT8, VcLawT9, VcLawTA, VcLawTC. -/
import Derived.Test.YtncgdoeobblnkaaGreatMrb9
set_option maxRecDepth 100000

/- VcLawT7 -/
namespace Go.Proofs.YtncgdoeobblnkaaGreat

theorem ixErr_few {l : List Rw} {d A B : Int} (h : ixErr l d A B = 0) {P : List Pr} (hp : P.Perm (l.map Rw.pr)) : P.length ≤ 512 := by
  have h1 := (ixErr_rok h).len
  have h2 := hp.length_eq
  rw [List.length_map] at h2
  omega

/-- Asked of sound rows of its dimension, looking at all fails as a search with a budget for all does. -/
theorem top_ask {ls : List Rw} {q : List Int} {d k : Int} (hd : d = q.length) (h : Rok ls d) : topErr ls q k = askErr q d k 1000000 := by
  subst hd
  unfold topErr askErr asked
  rw [rcheck_ok.2 h]
  by_cases hv : vcheck q q.length = 0
  · simp only [hv, ne_eq, not_true_eq_false, if_false]
    by_cases hk : k < 1 ∨ 64 < k
    · rw [if_pos hk, if_pos (by omega)]
    · rw [if_neg hk, if_neg (by omega)]
  · simp only [ne_eq, hv, not_false_eq_true, if_true]

/-- A search with a budget for all tells the first k of all rows. -/
theorem ix_all {u0 u : H} {D : Nat → Prop} {b : Nat} {X : Tr} (h : Ix u0 u D b X) (hf : (ixRows X).length ≤ 512) {q : List Int} {k : Int} (he : askErr q X.dim k 1000000 = 0) {L : List Rw} (hL : (L.map Rw.pr).Perm (ixRows X)) :
    ixH X q k 1000000 = topk k.toNat (L.map (hitOf q)) ∧ (ixS X q k 1000000).length ≤ (ixRows X).length := by
  obtain ⟨hv, k1, k2, _, _⟩ := askErr_ok.1 he
  obtain ⟨_, _, hql, hvq⟩ := vcheck_ok hv
  have hrok := ix_rok h hf hL
  have hqok : Qok L q := ⟨hvq, by rw [hql]; exact hrok⟩
  have hlen := hL.length_eq
  rw [List.length_map] at hlen
  exact ix_enough h he hL hqok (by omega)

theorem law.VptreeWhole {s t qs : Sl} {l : List Rw} {ops : List Cll} {q : List Int} {A B seed k : Int} {u : H} {K : Bool → H → Prop} (hTab : TabU u) (hc : Come2 u s t l ops) (hU : U64 seed) (hq : Ints u qs q) (h : ∀ u', u.le u' → K true u') :
    C.theodolitelaw08_VptreeWhole s A B seed t qs k u K := by
  have hqn := hq.len
  apply vc.theodolitelaw08_VptreeWhole
  intro K0 h0
  refine spec.theodolitelaw08_big hc ⟨fun _ => h u (H.le.refl u), fun e => (by cases e)⟩ fun _ hol _ _ => ⟨fun e => (by cases e), fun _ => ⟨fun _ => h u (H.le.refl u), fun _ => h0 _ _ ?_⟩⟩
  refine spec.ix_Build hc.rows hTab hU (fun hne => ?_) (fun he b D X u5 hX hp hdim hlinks hg0 => ?_)
  · intro K6 h6
    exact ⟨fun _ => spec.theodolitelaw08_awake hTab h, fun e => absurd e hne⟩
  · intro K6 h6
    refine ⟨fun hx => absurd rfl hx, fun _ => ⟨fun e => (by cases e), fun _ => h6 _ _ ?_⟩⟩
    refine spec.theodolitelaw08_plays hX (ixErr_few he hp) (by omega) hTab hc.calls hc.tn fun u9 D' X' hX' hf' hd' _ _ hgx => ?_
    have hd : X'.dim = q.length := by rw [hd', hdim, hqn]
    have hub9 := hX'.base.1
    have fin : ∀ {bb : Bool} {v : H}, bb = true → u.le v → K bb v := fun hb hv => by rw [hb]; exact h _ hv
    -- behind the search
    have rest : ∀ {sh ss sr : Sl} {e : Int} {u14 : H} {H1 : List Hit} {n : Nat}, e = askErr q X'.dim k 1000000 → u9.le u14 → Hts u14 sh H1 → H1.length ≤ 64 → ss.n = n → n ≤ (ixRows X').length → (e ≠ 0 → H1 = []) → (e = 0 → H1 = ixH X' q k 1000000) →
        C.vptree_Tree__Rows (some ⟨b, 0, none⟩) u14 (fun (s15 : Sl) (u16 : H) => C.flat_TopK s15 qs k u16 (fun (s17 : Sl) (x18 : Int) (u19 : H) => C.theodolitelaw08_awake u19 (fun (b20 : Bool) (u21 : H) => ((b20 = Bool.true) → ((e = x18) → C.theodolitekeep_Hits sh s17 u21 (fun (b22 : Bool) (u23 : H) => ((b22 = Bool.true) → (C.vptree_Tree__Len (some ⟨b, 0, none⟩) u23 (fun (x24 : Int) (u25 : H) => K (decide ((ss.n : Int) ≤ x24)) u25)) ∧ (C.vptree_Tree__Len (some ⟨b, 0, none⟩) u23 (fun (x26 : Int) (u27 : H) => K (decide ((ss.n : Int) ≤ x26)) u27))) ∧ ((b22 = Bool.false) → ((K Bool.false u23) ∧ (K Bool.false u23)) ∧ (K Bool.false u23)))) ∧ ((¬ (e = x18)) → ((K Bool.false u21) ∧ (K Bool.false u21)) ∧ (K Bool.false u21))) ∧ ((b20 = Bool.false) → ((K Bool.false u21) ∧ (K Bool.false u21)) ∧ (K Bool.false u21))))) := by
      intro sh ss sr e u14 H1 n ee l14 hH1 _ hsn hnl hbad hok
      have i14 := hX'.mono l14
      refine spec.ix_Rows i14 fun s15 ls u16 hR hpr _ => ?_
      have l16 : u.le u16 := (hub9.trans l14).trans hR.own.le
      refine spec.TopK hR.rws (hq.mono l16) fun s17 x18 u19 hres => ?_
      have hrok := ix_rok i14 hf' hpr
      have ex : x18 = e := by rw [hres.err, top_ask hd hrok, ee]
      obtain ⟨L2, hH2, _, g1, g2⟩ := hres.hts
      have eL : H1 = L2 := by
        by_cases h0 : e = 0
        · rw [hok h0, g1 (ex.trans h0)]
          exact (ix_all i14 hf' (ee ▸ h0) hpr).1
        · rw [hbad h0, g2 (by rw [ex]; exact h0)]
      refine spec.theodolitelaw08_awake (hTab.mono (l16.trans hres.1)) fun u21 l21 => ⟨fun _ => ⟨fun _ => ?_, fun hx => absurd ex.symm hx⟩, fun e => (by cases e)⟩
      refine spec.theodolitekeep_Hits (hH1.mono ((hR.own.le.trans hres.1).trans l21)) (hH2.mono l21) ?_
      have i21 := i14.mono ((hR.own.le.trans hres.1).trans l21)
      have len : ∀ {A : Int → H → Prop}, A ((ixRows X').length : Int) u21 → C.vptree_Tree__Len (some ⟨b, 0, none⟩) u21 A := fun hA => spec.ix_Len i21 hA
      refine ⟨fun _ => ⟨len (fin (decide_eq_true (by omega)) i21.base.1), len (fin (decide_eq_true (by omega)) i21.base.1)⟩, fun hb => ?_⟩
      rw [decide_eq_true eL] at hb
      cases hb
    refine spec.ix_Search hX' (by omega) (hq.mono hub9) (fun hne u14 l14 => ?_) (fun he14 sh ss sr rst u14 ha _ => ?_)
    · exact rest (sr := ⟨none, 0, 0⟩) (n := 0) rfl l14 (show Hts u14 ⟨none, 0, 0⟩ [] from (OwnF.nil (H.le.refl u14) 0 3).own.seg) (by simp) rfl (Nat.zero_le _) (fun _ => rfl) (fun e => absurd e hne)
    · have hk := (askErr_ok.1 he14)
      refine rest (sr := sr) (n := (ixS X' q k 1000000).length) he14.symm ha.le ha.read.h ?_ (by have := ha.read.s.len; omega) ?_ (fun e => absurd rfl e) (fun _ => rfl)
      · show (topk _ _).length ≤ 64
        rw [topk_len]
        omega
      · obtain ⟨s1, ls, hls⟩ : ∃ (z : Nat) (ls : List Rw), (ls.map Rw.pr).Perm (ixRows X') := ⟨0, (ixRows X').map fun p => ⟨p.1, ⟨none, 0, 0⟩, p.2⟩, by rw [List.map_map]; exact List.Perm.of_eq (List.map_id' _)⟩
        have := (ix_all hX' hf' he14 hls).2
        omega

end Go.Proofs.YtncgdoeobblnkaaGreat

/- VcLawT8 -/
namespace Go.Proofs.YtncgdoeobblnkaaGreat

theorem spec.emptySearch {u0 u : H} {D : Nat → Prop} {b : Nat} {X : Tr} {t : Sl} {q : List Int} {k bud : Int} {K : Sl → Sl → Sl → Int → H → Prop} (h : Ix u0 u D b X) (hgas : ixGas X ≤ 2700) (h0 : ixRows X = []) (ht : Ints u t q)
    (hK : ∀ (sh ss sr : Sl) e u', u.le u' → sh.n = 0 → ss.n = 0 → sr.n = 0 → K sh ss sr e u') : C.vptree_Tree__Search (some ⟨b, 0, none⟩) t k bud u K := by
  refine spec.ix_Search h hgas ht (fun hne u' l => hK _ _ _ _ u' l rfl rfl rfl) fun he sh ss sr rest u' ha hr => ?_
  have hL : (([] : List Rw).map Rw.pr).Perm (ixRows X) := by rw [h0]; exact .refl _
  have hrok := ix_rok h (by rw [h0]; simp) hL
  obtain ⟨_, _, hql, hvq⟩ := vcheck_ok (askErr_ok.1 he).1
  obtain ⟨hS, _, _⟩ := ix_sound3 h he hL ⟨hvq, by rw [hql]; exact hrok⟩ hr
  have hall := hS.all.length_eq
  simp only [List.length_append, List.map_nil, List.length_nil] at hall
  have hs0 : (ixS X q k bud) = [] := List.eq_nil_of_length_eq_zero (by omega)
  have hr0 : rest.flatMap (·.ids) = [] := List.eq_nil_of_length_eq_zero (by omega)
  have hrest : rest = [] := by
    cases rest with
    | nil => rfl
    | cons r rs =>
      have h1 := (hS.reg r (List.mem_cons_self ..)).2.1
      rw [List.flatMap_cons] at hr0
      exact absurd (List.append_eq_nil_iff.1 hr0).1 h1
  have hh0 : ixH X q k bud = [] := by
    rw [hS.first [] (fun _ hx => (by cases hx)) hs0.symm]
    exact List.eq_nil_of_length_eq_zero (by rw [topk_len]; simp)
  have n1 := ha.read.h.len
  have n2 := ha.read.s.len
  have n3 := ha.read.r.len
  rw [hh0] at n1
  rw [hs0] at n2
  rw [hrest] at n3
  exact hK sh ss sr 0 u' ha.le n1 n2 n3

theorem spec.emptyTail {ub u : H} {D : Nat → Prop} {b : Nat} {X : Tr} {t ms : Sl} {q mv : List Int} {k id : Int} {Q : Bool → Int → Sl → Sl → Sl → Int → H → Prop} (h : Ix ub u D b X) (hgas : ixGas X ≤ 2600) (h0 : ixRows X = []) (hTab : TabU ub) (ht : Ints ub t q) (hm : Ints ub ms mv)
    (hbad : ∀ b' x s1 s2 s3 y u', ub.le u' → (x ≠ 0 ∨ y ≠ 0) → Q b' x s1 s2 s3 y u')
    (hok : ∀ s1 s2 s3 u' D' X' (d : Int), Ix ub u' D' b X' → (ixRows X').length = 1 → Hts u' s1 [⟨id, d⟩] → Q true 0 s1 s2 s3 0 u') :
    C.vptree_Tree__Put (some ⟨b, 0, none⟩) id ms u fun (b27 : Bool) (x28 : Int) (u29 : H) => C.vptree_Tree__Search (some ⟨b, 0, none⟩) t k 1000000 u29 fun (s30 : Sl) (s31 : Sl) (s32 : Sl) (x33 : Int) (u34 : H) => Q b27 x28 s30 s31 s32 x33 u34 := by
  refine spec.ix_PutB h (by omega) hTab hm (fun hne => ?_) fun he u2 D2 X2 i1 i2 i3 i4 i5 i6 => ?_
  · refine spec.ix_Search h (by omega) (ht.mono h.base.1) (fun _ u' l => hbad _ _ _ _ _ _ u' (h.base.1.trans l) (.inl hne)) fun _ sh ss sr rest u' ha _ => hbad _ _ _ _ _ _ u' (h.base.1.trans ha.le) (.inl hne)
  · rw [h0] at i3
    have e2 : ixRows X2 = [(id, mv)] := List.perm_singleton.1 i3
    have hb : decide (id ∉ (ixRows X).map (·.1)) = true := by rw [h0]; simp
    rw [hb]
    refine spec.ix_Search i1 (by omega) (ht.mono i1.base.1) (fun hne u' l => hbad _ _ _ _ _ _ u' (i1.base.1.trans l) (.inr hne)) fun he sh ss sr rest u' ha _ => ?_
    have hL : ([(⟨id, ⟨none, 0, 0⟩, mv⟩ : Rw)].map Rw.pr).Perm (ixRows X2) := by rw [e2]; exact .refl _
    have hh := (ix_all i1 (by rw [e2]; simp) he hL).1
    have hk := askErr_ok.1 he
    have e3 : ixH X2 q k 1000000 = [hitOf q ⟨id, ⟨none, 0, 0⟩, mv⟩] := by
      rw [hh]
      obtain ⟨m, hm⟩ : ∃ m, k.toNat = m + 1 := ⟨k.toNat - 1, by omega⟩
      have hp := sortH_perm [hitOf q ⟨id, ⟨none, 0, 0⟩, mv⟩]
      show (sortH _).take k.toNat = _
      rw [show sortH ([(⟨id, ⟨none, 0, 0⟩, mv⟩ : Rw)].map (hitOf q)) = [hitOf q ⟨id, ⟨none, 0, 0⟩, mv⟩] from List.perm_singleton.1 hp, hm]
      simp
    have hH := ha.read.h
    rw [e3] at hH
    exact hok _ _ _ u' D2 X2 _ (i1.mono ha.le) (by rw [e2]; rfl) hH

theorem law.VptreeEmpty {s qs ms : Sl} {l : List Rw} {q mv : List Int} {A B seed k bud id : Int} {u : H} {K : Bool → H → Prop} (hTab : TabU u) (hs : Rws u s l) (hsm : ∀ r ∈ l, r.v.length ≤ 17592186044416) (hsn : s.n ≤ 17592186044416) (hU : U64 seed)
    (hq : Ints u qs q) (hm : Ints u ms mv) (h : ∀ u', u.le u' → K true u') : C.theodolitelaw08_VptreeEmpty s A B seed qs k bud id ms u K := by
  have hqn := hq.len
  have hln := hs.len
  apply vc.theodolitelaw08_VptreeEmpty
  intro K0 h0
  refine spec.theodolitelaw08_big (ops := []) ⟨hs, Ops.nil u, hsm, hsn, fun o ho => (by cases ho), by show 0 ≤ 17592186044416; omega⟩ ⟨fun _ => h u (H.le.refl u), fun e => (by cases e)⟩ fun hl _ _ _ => ⟨fun e => (by cases e), fun _ => ⟨fun _ => h u (H.le.refl u), fun _ => ⟨fun _ => h u (H.le.refl u), fun _ => h0 _ _ ?_⟩⟩⟩
  refine spec.ix_Build hs hTab hU (fun hne => ?_) (fun he b D X u5 hX hp hdim hlinks hg0 => ?_)
  · intro K6 h6
    exact ⟨fun _ => spec.theodolitelaw08_awake hTab h, fun e => absurd e hne⟩
  intro K6 h6
  refine ⟨fun hx => absurd rfl hx, fun _ => ⟨fun e => (by cases e), fun _ => h6 _ _ ?_⟩⟩
  have hrok := ixErr_rok he
  have fin : ∀ {bb : Bool} {v : H}, bb = true → u.le v → K bb v := fun hb hv => by rw [hb]; exact h _ hv
  refine ⟨fun _ x v => 0 ≤ x ∧ ∃ D' X', Ix u v D' b X' ∧ (ixRows X').Perm ((l.drop x.toNat).map Rw.pr) ∧ ixGas X' = 0, fun _ x _ => ((s.n : Int) - x).toNat, ⟨by omega, D, X, hX, hp, hg0⟩, fun b11 x v hI => ⟨fun hx => ?_, fun hx => ?_⟩⟩
  · obtain ⟨h0, D', X', hX', hpX, hgx⟩ := hI
    have hxl : x.toNat < l.length := by omega
    obtain ⟨p, hpp, r, hr, c0, _, _⟩ := (hs.mono hX'.base.1).at h0 hx
    have er : l[x.toNat] = r := (List.getElem?_eq_some_iff.1 hr).2
    have hdrop : l.drop x.toNat = r :: l.drop (x.toNat + 1) := by rw [List.drop_eq_getElem_cons hxl, er]
    have hin : r.id ∈ (ixRows X').map (·.1) := by
      rw [(hpX.map (·.1)).mem_iff, hdrop]
      exact List.mem_cons_self ..
    refine ⟨p, hpp, ⟨h0, hx⟩, _, c0, ?_⟩
    refine spec.ix_Delete hX' (by omega) (fun hno => absurd hin hno) fun _ u' D2 X2 i1 i2 i3 _ _ i6 => ⟨fun hx => absurd rfl hx, fun _ => ⟨fun hx => absurd rfl hx, fun _ => ⟨⟨by omega, by omega⟩, ⟨by omega, D2, X2, i1, ?_, by omega⟩, by dsimp only; omega⟩⟩⟩
    rw [i3, show (x + 1).toNat = x.toNat + 1 by omega]
    refine (hpX.filter _).trans (List.Perm.of_eq ?_)
    have hnd : ((l.drop x.toNat).map (·.id)).Nodup := hrok.nodup.sublist ((List.drop_sublist _ _).map _)
    rw [hdrop] at hnd ⊢
    rw [List.map_cons, List.nodup_cons] at hnd
    rw [List.map_cons, List.filter_cons, if_neg (by simp [Rw.pr])]
    refine List.filter_eq_self.2 fun y hy => ?_
    obtain ⟨z, hz, rfl⟩ := List.mem_map.1 hy
    simp only [Rw.pr, bne_iff_ne, ne_eq]
    exact fun e => hnd.1 (List.mem_map.2 ⟨z, hz, e⟩)
  · obtain ⟨h0, D', X', hX', hpX, hgx⟩ := hI
    have e0 : ixRows X' = [] := by
      rw [List.drop_eq_nil_of_le (by omega)] at hpX
      exact List.perm_nil.1 hpX
    refine spec.emptySearch hX' (by omega) e0 (hq.mono hX'.base.1) fun sh ss sr x22 u23 l23 n1 n2 n3 => ?_
    intro K24 h24
    have i23 := hX'.mono l23
    refine spec.ix_Len i23 ?_
    rw [e0]
    refine ⟨fun hx => absurd rfl hx, fun _ => spec.ix_Rows i23 fun s55 ls u56 hR hpr _ => ?_⟩
    have n4 := hR.rws.len
    have n5 := hpr.length_eq
    rw [e0] at n5
    simp only [List.length_map, List.length_nil] at n5
    refine ⟨fun hx => absurd hx (by omega), fun _ => ⟨⟨by omega, by omega⟩, ⟨by omega, by omega⟩, fun hx => absurd hx (by omega), fun _ => h24 _ _ ?_⟩⟩
    refine spec.emptyTail (i23.mono hR.own.le) (by omega) e0 hTab hq hm (fun b' x s1 s2 s3 y u' l' hxy => ?_) (fun s1 s2 s3 u' D2 X2 d i2 hlen hH => ?_)
    · intro K35 h35
      have aw : C.theodolitelaw08_awake u' (fun (b47 : Bool) (u48 : H) => K b47 u48) := spec.theodolitelaw08_awake (hTab.mono l') fun u48 l48 => h _ (l'.trans l48)
      refine ⟨fun _ => aw, fun _ => ⟨fun _ => aw, fun hx => ⟨fun _ => aw, fun hy => ?_⟩⟩⟩
      rcases hxy with hn | hn
      · exact absurd hx hn
      · exact absurd hy hn
    · intro K35 h35
      have lu' := i2.base.1
      have aw : C.theodolitelaw08_awake u' (fun (b47 : Bool) (u48 : H) => K b47 u48) := spec.theodolitelaw08_awake (hTab.mono lu') fun u48 l48 => h _ (lu'.trans l48)
      refine ⟨fun _ => aw, fun _ => ⟨fun hx => absurd rfl hx, fun _ => ⟨fun hx => absurd rfl hx, fun _ => h35 _ _ ?_⟩⟩⟩
      refine spec.theodolitelaw08_awake (hTab.mono lu') fun u39 l39 => ⟨fun _ => ⟨fun _ => ?_, fun e => (by cases e)⟩, fun e => (by cases e)⟩
      refine spec.ix_Len (i2.mono l39) ?_
      rw [hlen]
      have hn := hH.len
      simp only [List.length_cons, List.length_nil] at hn
      obtain ⟨p, hpa, g, hg, c0, _⟩ := (hH.mono l39).at (x := 0) (by omega) (by omega)
      simp at hg
      subst hg
      have c0' : H.cell? u39 (p.add 0) = some (.int .i64 id) := by simpa using c0
      have kk : K (decide (id = id)) u39 := fin (decide_eq_true rfl) (lu'.trans l39)
      refine ⟨fun _ => ⟨fun _ => ?_, fun hx => absurd (by omega) hx⟩, fun hx => absurd rfl hx⟩
      exact ⟨⟨p, hpa, ⟨by omega, by omega⟩, ⟨_, c0', kk⟩, ⟨_, c0', kk⟩⟩, ⟨p, hpa, ⟨by omega, by omega⟩, _, c0', kk⟩⟩

end Go.Proofs.YtncgdoeobblnkaaGreat

/- VcLawT9 -/
namespace Go.Proofs.YtncgdoeobblnkaaGreat

def stepP (d : Int) (P : List Pr) (o : Cll) : List Pr :=
  if o.kind = 1 then (if mayErr o.rid o.v d (decide (o.rid ∈ P.map (·.1))) P.length = 0 then (o.rid, o.v) :: P.filter (fun x => x.1 != o.rid) else P)
  else if o.kind = 2 then P.filter (fun x => x.1 != o.id) else P

theorem stepP_perm {d : Int} {P Q : List Pr} {o : Cll} (h : P.Perm Q) : (stepP d P o).Perm (stepP d Q o) := by
  unfold stepP
  by_cases h1 : o.kind = 1
  · rw [if_pos h1, if_pos h1]
    have e1 : decide (o.rid ∈ P.map (·.1)) = decide (o.rid ∈ Q.map (·.1)) := decide_eq_decide.2 (h.map _).mem_iff
    rw [e1, h.length_eq]
    split
    · exact List.Perm.cons _ (h.filter _)
    · exact h
  · rw [if_neg h1, if_neg h1]
    split
    · exact h.filter _
    · exact h

theorem playP_perm {d : Int} : ∀ {ops : List Cll} {P Q : List Pr}, P.Perm Q → (ops.foldl (stepP d) P).Perm (ops.foldl (stepP d) Q) := by
  intro ops
  induction ops with
  | nil => intro P Q h; exact h
  | cons o ops ih => intro P Q h; exact ih (stepP_perm h)

theorem spec.plays {ub u : H} {D : Nat → Prop} {b : Nat} {X : Tr} {t : Sl} {ops : List Cll} {K : H → Prop} (h : Ix ub u D b X) (hf : (ixRows X).length ≤ 512) (hgas : ixGas X + ops.length ≤ 2700) (hTab : TabU ub) (hO : Ops ub t ops) (htn : t.n ≤ 17592186044416)
    (hK : ∀ u' D' X', Ix ub u' D' b X' → (ixRows X').length ≤ 512 → X'.dim = X.dim → X'.links = X.links → IxTurn u D u' D' → (ixRows X').Perm (ops.foldl (stepP X.dim) (ixRows X)) → ixGas X' ≤ ixGas X + ops.length → K u') : C.theodolitelaw08_plays (some ⟨b, 0, none⟩) t u K := by
  have hon := hO.len
  apply vc.theodolitelaw08_plays
  refine ⟨fun x v => 0 ≤ x ∧ ∃ D' X', Ix ub v D' b X' ∧ (ixRows X').length ≤ 512 ∧ X'.dim = X.dim ∧ X'.links = X.links ∧ IxTurn u D v D' ∧ (ixRows X').Perm ((ops.take x.toNat).foldl (stepP X.dim) (ixRows X)) ∧ (ixGas X' : Int) ≤ ixGas X + x ∧ x ≤ t.n, fun x _ => ((t.n : Int) - x).toNat, ⟨by omega, D, X, h, hf, rfl, rfl, IxTurn.mono (H.le.refl u), .refl _, by omega, by omega⟩, fun x v hI => ⟨fun hx => ?_, fun hx => ?_⟩⟩
  · obtain ⟨h0, D', X', hX, hf', hd, hl, ht, hP, hgx, hxt⟩ := hI
    obtain ⟨p, hp, o, ho, hmem, c0, c1, c2, c3, c4, c5, c6, hv, hq⟩ := (hO.mono hX.base.1).at h0 hx
    have etake : ops.take (x + 1).toNat = ops.take x.toNat ++ [o] := by
      rw [show (x + 1).toNat = x.toNat + 1 by omega, List.take_add_one, ho]
      rfl
    have next : ∀ {v' : H} {D2 : Nat → Prop} {X2 : Tr}, Ix ub v' D2 b X2 → (ixRows X2).length ≤ 512 → X2.dim = X'.dim → X2.links = X'.links → IxTurn v D' v' D2 → (ixRows X2).Perm (stepP X.dim (ixRows X') o) → ixGas X2 ≤ ixGas X' + 1 →
        InR (x + 1) ∧ (0 ≤ x + 1 ∧ ∃ D' X', Ix ub v' D' b X' ∧ (ixRows X').length ≤ 512 ∧ X'.dim = X.dim ∧ X'.links = X.links ∧ IxTurn u D v' D' ∧ (ixRows X').Perm ((ops.take (x + 1).toNat).foldl (stepP X.dim) (ixRows X)) ∧ (ixGas X' : Int) ≤ ixGas X + (x + 1) ∧ x + 1 ≤ t.n) ∧ ((t.n : Int) - (x + 1)).toNat < ((t.n : Int) - x).toNat := fun i1 i2 i3 i4 i5 i6 i7 =>
      ⟨⟨by omega, by omega⟩, ⟨by omega, _, _, i1, i2, i3.trans hd, i4.trans hl, ht.trans i5, by
        rw [etake, List.foldl_append]
        exact i6.trans (stepP_perm hP), by omega, by omega⟩, by omega⟩
    refine ⟨p, hp, ⟨h0, hx⟩, _, c0, fun k1 => ⟨p, hp, ⟨h0, hx⟩, _, c4, _, c5, ?_⟩, fun k1 => ⟨fun k2 => ⟨p, hp, ⟨h0, hx⟩, _, c1, ?_⟩, fun k2 => next hX hf' rfl rfl (IxTurn.mono (H.le.refl v)) (by
      unfold stepP
      rw [if_neg k1, if_neg k2]) (Nat.le_succ _)⟩⟩
    · refine spec.ix_PutB hX (by omega) hTab (hO.2 o hmem).1 (fun hne => next hX hf' rfl rfl (IxTurn.mono (H.le.refl v)) (by
        unfold stepP
        rw [if_pos k1, if_neg (by rw [← hd]; exact hne)]) (Nat.le_succ _)) fun he v' D2 X2 i1 i2 i3 i4 i5 i6 => next i1 (few_put hf' he i3) i4 i5 i2 (by
        unfold stepP
        rw [if_pos k1, if_pos (by rw [← hd]; exact he)]
        exact i3) i6
    · refine spec.ix_Delete hX (by omega) (fun hno v' lv => next (hX.mono lv) hf' rfl rfl (IxTurn.mono lv) (by
        unfold stepP
        rw [if_neg k1, if_pos k2]
        refine List.Perm.of_eq (List.filter_eq_self.2 fun y hy => ?_).symm
        simp only [bne_iff_ne, ne_eq]
        exact fun e => hno (List.mem_map.2 ⟨y, hy, e⟩)) (Nat.le_succ _)) fun _ v' D2 X2 i1 i2 i3 i4 i5 i6 => next i1 ?_ i4 i5 i2 (by
        unfold stepP
        rw [if_neg k1, if_pos k2, i3]) (Nat.le_succ_of_le i6)
      rw [i3]
      exact Nat.le_trans (List.length_filter_le _ _) hf'
  · obtain ⟨h0, D', X', hX, hf', hd, hl, ht, hP, hgx, hxt⟩ := hI
    rw [List.take_of_length_le (by omega)] at hP
    exact hK v D' X' hX hf' hd hl ht hP (by omega)

/-- A tree beside one that turns. -/
theorem Ix.beside {ub u u' : H} {D D' D2 : Nat → Prop} {b2 : Nat} {Y : Tr} (h : Ix ub u D2 b2 Y) (ht : IxTurn u D u' D') (hd : ∀ c, D c → ¬ D2 c) (hle : ub.le u') : Ix ub u' D2 b2 Y ∧ ∀ c, D' c → ¬ D2 c :=
  ⟨h.same (fun c o hc h2 => ht.keep c o hc fun h1 => hd c h1 h2) hle, fun c h1 h2 => by
    rcases ht.grow c h1 with h3 | h3
    · exact hd c h3 h2
    · exact h.base.2.2 c h2 h3⟩

theorem mkL_perm {P Q : List Pr} (h : P.Perm Q) : (mkL P).Perm (mkL Q) := h.map _

theorem rise_rows {ls : List Rw} {P : List Pr} (hp : (ls.map Rw.pr).Perm P) (hn : (P.map (·.1)).Nodup) (hs : ls.Pairwise fun a b => a.id ≤ b.id) : (ls.map Rw.pr).Pairwise fun a b => a.1 < b.1 := by
  rw [List.pairwise_map]
  have hnd : (ls.map (·.id)).Nodup := by
    rw [ids_pr]
    exact ((hp.map (·.1)).nodup_iff).2 hn
  rw [List.nodup_iff_pairwise_ne, List.pairwise_map] at hnd
  refine (hs.and hnd).imp fun {x y} hxy => ?_
  have := hxy.1
  have := hxy.2
  show x.id < y.id
  omega

end Go.Proofs.YtncgdoeobblnkaaGreat

/- VcLawTA -/
namespace Go.Proofs.YtncgdoeobblnkaaGreat

/-- A search with a budget for all: its error, its hits. -/
theorem spec.searchAll {u0 u : H} {D : Nat → Prop} {b : Nat} {X : Tr} {t : Sl} {q : List Int} {k : Int} {K : Sl → Sl → Sl → Int → H → Prop} (h : Ix u0 u D b X) (hf : (ixRows X).length ≤ 512) (hgas : ixGas X ≤ 2700) (ht : Ints u t q)
    (hK : ∀ sh ss sr u' L, u.le u' → Hts u' sh L → (askErr q X.dim k 1000000 = 0 → L = topk k.toNat ((mkL (ixRows X)).map (hitOf q))) → (askErr q X.dim k 1000000 ≠ 0 → L = []) → K sh ss sr (askErr q X.dim k 1000000) u') : C.vptree_Tree__Search (some ⟨b, 0, none⟩) t k 1000000 u K := by
  refine spec.ix_Search h hgas ht (fun hne u' l => hK _ _ _ u' [] l (show Hts u' ⟨none, 0, 0⟩ [] from (OwnF.nil (H.le.refl u') 0 3).own.seg) (fun e => absurd e hne) fun _ => rfl) fun he sh ss sr rest u' ha _ => ?_
  have h2 := hK sh ss sr u' _ ha.le ha.read.h (fun _ => (ix_all h hf he (by rw [mkL_pr])).1) fun hne => absurd he hne
  rwa [he] at h2

theorem law.VptreeBuilt {s t qs : Sl} {l : List Rw} {ops : List Cll} {q : List Int} {A B seed k : Int} {u : H} {K : Bool → H → Prop} (hTab : TabU u) (hc : Come2 u s t l ops) (hU : U64 seed) (hq : Ints u qs q) (h : ∀ u', u.le u' → K true u') :
    C.theodolitelaw08_VptreeBuilt s A B seed t qs k u K := by
  have hqn := hq.len
  have hln := hc.rows.len
  have hsn := hc.sn
  apply vc.theodolitelaw08_VptreeBuilt
  intro K0 h0
  refine spec.theodolitelaw08_big hc ⟨fun _ => h u (H.le.refl u), fun e => (by cases e)⟩ fun _ hol _ _ => ⟨fun e => (by cases e), fun _ => ⟨fun _ => h u (H.le.refl u), fun _ => h0 _ _ ?_⟩⟩
  have fin : ∀ {bb : Bool} {v : H}, bb = true → u.le v → K bb v := fun hb hv => by rw [hb]; exact h _ hv
  have aw : ∀ {v : H}, u.le v → C.theodolitelaw08_awake v (fun (b44 : Bool) (u45 : H) => K b44 u45) := fun lv => spec.theodolitelaw08_awake (hTab.mono lv) fun u' l' => h _ (lv.trans l')
  refine spec.ix_Build hc.rows hTab hU (fun hne => ?_) (fun he b D X u5 hX hp hdim hlinks hg0 => ?_)
  · refine spec.ix_Build (Rws.nil u) hTab hU (fun hne2 => ?_) (fun he2 b2 D2 Y u8 hY _ _ _ _ => ?_)
    · intro K9 h9
      exact ⟨fun _ => aw (H.le.refl u), fun e => absurd e hne⟩
    · intro K9 h9
      exact ⟨fun _ => aw hY.base.1, fun e => absurd e hne⟩
  · have l5 := hX.base.1
    refine spec.ix_Build (Rws.nil u5) (hTab.mono l5) hU (fun hne2 => ?_) (fun he2 b2 D2 Y u8 hY hpY hdimY _ hgY => ?_)
    · intro K9 h9
      exact ⟨fun hx => absurd rfl hx, fun _ => ⟨fun _ => aw l5, fun e => absurd e hne2⟩⟩
    · intro K9 h9
      refine ⟨fun hx => absurd rfl hx, fun _ => ⟨fun hx => absurd rfl hx, fun _ => ⟨fun e => (by cases e), fun _ => ⟨fun e => (by cases e), fun _ => h9 _ _ ?_⟩⟩⟩⟩
      have hX8 := hX.mono hY.base.1
      have hd8 : ∀ c, D2 c → ¬ D c := fun c h2 h1 => hX.base.2.2 c h1 (hY.base.2.1 c h2)
      have hY8 := hY.rebase l5
      have hfX := ixErr_few he hp
      have hrok := ixErr_rok he
      refine ⟨⟨by omega, by omega⟩, fun x v => -1 ≤ x ∧ x < s.n ∧ ∃ D2' Y', Ix u v D b X ∧ Ix u v D2' b2 Y' ∧ (∀ c, D2' c → ¬ D c) ∧ Y'.dim = s.n * 0 + Y.dim ∧ (ixRows Y').Perm ((l.drop (x + 1).toNat).map Rw.pr) ∧ (ixGas Y' : Int) ≤ s.n - 1 - x, fun x _ => (x + 1).toNat, ⟨by omega, by omega, D2, Y, hX8, hY8, hd8, by omega, ?_, by omega⟩, fun x v hI => ⟨fun hx => ?_, fun hx => ?_⟩⟩
      · rw [List.drop_eq_nil_of_le (by omega)]
        exact hpY
      · obtain ⟨_, h1, D2', Y', hXv, hYv, hdv, hdY, hpv, hgv⟩ := hI
        have hxl : x.toNat < l.length := by omega
        obtain ⟨p, hpp, r, hr, c0, c1, _⟩ := (hc.rows.mono hXv.base.1).at hx h1
        have er : l[x.toNat] = r := (List.getElem?_eq_some_iff.1 hr).2
        have hmem : r ∈ l := List.mem_of_getElem? hr
        have hdrop : l.drop x.toNat = r :: l.drop (x + 1).toNat := by
          rw [show (x + 1).toNat = x.toNat + 1 by omega, List.drop_eq_getElem_cons hxl, er]
        have hnd : ((l.drop x.toNat).map (·.id)).Nodup := hrok.nodup.sublist ((List.drop_sublist _ _).map _)
        rw [hdrop, List.map_cons, List.nodup_cons] at hnd
        have hno : r.id ∉ (ixRows Y').map (·.1) := by
          rw [(hpv.map (·.1)).mem_iff, ← ids_pr]
          exact hnd.1
        have hlenY := hpv.length_eq
        rw [List.length_map, List.length_drop] at hlenY
        have hlen := hrok.len
        refine ⟨p, hpp, ⟨hx, h1⟩, _, c0, _, c1, ?_⟩
        refine spec.ix_PutB hYv (by omega) hTab (hc.rows.2 r hmem) (fun hne => absurd ?_ hne) fun _ v' D3 Y3 i1 i2 i3 i4 i5 i6 => ?_
        · have hri := hrok.id r hmem
          obtain ⟨hvl, hvo⟩ := hrok.v r hmem
          have hvc : vcheck r.v Y'.dim = 0 := by
            rw [hdY, hdimY, show (s.n : Int) * 0 + (qs.n : Int) = r.v.length by omega]
            exact ok_vcheck hvo (by have := hrok.dim; omega)
          unfold mayErr
          rw [if_neg (by omega), if_neg (by rw [hvc]; simp), if_neg (by omega)]
        · obtain ⟨hX3, hd3⟩ := hXv.beside i2 hdv i1.base.1
          refine ⟨⟨by omega, by omega⟩, ⟨by omega, by omega, D3, Y3, hX3, i1, hd3, by omega, ?_, by omega⟩, by dsimp only; omega⟩
          rw [show (x - 1 + 1).toNat = x.toNat by omega, hdrop]
          refine i3.trans (List.Perm.cons _ ?_)
          refine (List.Perm.of_eq (List.filter_eq_self.2 fun y hy => ?_)).trans hpv
          simp only [bne_iff_ne, ne_eq]
          exact fun e => hno (List.mem_map.2 ⟨y, hy, e⟩)
      · obtain ⟨_, h1, D2', Y', hXv, hYv, hdv, hdY, hpv, hgv⟩ := hI
        rw [show (x + 1).toNat = 0 by omega, List.drop_zero] at hpv
        have hpXY : (ixRows X).Perm (ixRows Y') := hp.trans hpv.symm
        have hdXY : Y'.dim = X.dim := by omega
        have hl512 := hrok.len
        refine spec.plays hXv hfX (by omega) hTab hc.calls hc.tn fun u22 D4 X4 j1 j2 j3 _ j5 j6 j7 => ?_
        obtain ⟨hY22, hd22⟩ := hYv.beside j5 (fun c h1 h2 => hdv c h2 h1) j1.base.1
        refine spec.plays hY22 (by rw [← hpXY.length_eq]; exact hfX) (by omega) hTab hc.calls hc.tn fun u23 D5 Y5 k1 k2 k3 _ k5 k6 k7 => ?_
        obtain ⟨hX23, hd23⟩ := j1.beside k5 (fun c h1 h2 => hd22 c h2 h1) k1.base.1
        have hR : (ixRows X4).Perm (ixRows Y5) := by
          refine j6.trans (List.Perm.trans ?_ k6.symm)
          rw [hdXY]
          exact playP_perm hpXY
        have hdd : Y5.dim = X4.dim := by omega
        have l23 := k1.base.1
        refine spec.searchAll hX23 j2 (by omega) (hq.mono l23) fun sh ss sr u28 L1 l28 hH1 e1 e1' => ?_
        refine spec.searchAll (k1.mono l28) k2 (by omega) (hq.mono (l23.trans l28)) fun sh2 ss2 sr2 u33 L2 l33 hH2 e2 e2' => ?_
        rw [hdd] at e2 e2' ⊢
        have eL : L1 = L2 := by
          by_cases he : askErr q X4.dim k 1000000 = 0
          · rw [e1 he, e2 he]
            exact topk_eq ((mkL_perm hR).map _)
          · rw [e1' he, e2' he]
        have l33' := (l23.trans l28).trans l33
        refine spec.theodolitelaw08_awake (hTab.mono l33') fun u35 l35 => ⟨fun _ => ⟨fun _ => ?_, fun hx => absurd rfl hx⟩, fun e => (by cases e)⟩
        refine spec.theodolitekeep_Hits (hH1.mono (l33.trans l35)) (hH2.mono l35) ⟨fun _ => ?_, fun hb => (by rw [decide_eq_true eL] at hb; cases hb)⟩
        have l35' := (l28.trans l33).trans l35
        refine spec.ix_Rows (hX23.mono l35') fun s38 ls u39 hR1 hp1 hs1 => ?_
        refine spec.ix_Rows ((k1.mono l35').mono hR1.own.le) fun s40 ls2 u41 hR2 hp2 hs2 => ?_
        refine spec.theodolitekeep_Rows (hR1.rws.mono hR2.own.le) hR2.rws (fin (decide_eq_true ?_) ?_)
        · exact pr_rise_eq (rise_rows hp1 hX23.rowsOk hs1) (rise_rows hp2 k1.rowsOk hs2) (hp1.trans (hR.trans hp2.symm))
        · exact ((l23.trans l35').trans hR1.own.le).trans hR2.own.le

end Go.Proofs.YtncgdoeobblnkaaGreat

/- VcLawTC -/
namespace Go.Proofs.YtncgdoeobblnkaaGreat

open Classical in
theorem law.VptreeSure {s t qs : Sl} {l : List Rw} {ops : List Cll} {q : List Int} {A B seed k bud : Int} {u : H} {K : Bool → H → Prop} (hTab : TabU u) (hc : Come2 u s t l ops) (hU : U64 seed) (hq : Ints u qs q) (h : ∀ u', u.le u' → K true u') :
    C.theodolitelaw08_VptreeSure s A B seed t qs k bud u K := by
  have hqn := hq.len
  apply vc.theodolitelaw08_VptreeSure
  intro K0 h0
  refine spec.theodolitelaw08_big hc ⟨fun _ => h u (H.le.refl u), fun e => (by cases e)⟩ fun _ hol _ _ => ⟨fun e => (by cases e), fun _ => ⟨fun _ => h u (H.le.refl u), fun _ => h0 _ _ ?_⟩⟩
  refine spec.ix_Build hc.rows hTab hU (fun hne => ?_) (fun he b D X u5 hX hp hdim hlinks hg0 => ?_)
  · intro K6 h6
    exact ⟨fun _ => spec.theodolitelaw08_awake hTab h, fun e => absurd e hne⟩
  intro K6 h6
  refine ⟨fun hx => absurd rfl hx, fun _ => ⟨fun e => (by cases e), fun _ => h6 _ _ ?_⟩⟩
  refine spec.theodolitelaw08_plays hX (ixErr_few he hp) (by omega) hTab hc.calls hc.tn fun u9 D' X' hX' hf' hd' _ _ hgx => ?_
  have hd : X'.dim = q.length := by rw [hd', hdim, hqn]
  have hub9 := hX'.base.1
  have fin : ∀ {bb : Bool} {v : H}, bb = true → u.le v → K bb v := fun hb hv => by rw [hb]; exact h _ hv
  have aw : ∀ {v : H}, u.le v → C.theodolitelaw08_awake v (fun (b44 : Bool) (u45 : H) => K b44 u45) := fun lv => spec.theodolitelaw08_awake (hTab.mono lv) fun u' l' => h _ (lv.trans l')
  refine spec.ix_Search hX' (by omega) (hq.mono hub9) (fun hne u14 l14 => ?_) (fun he14 sh ss sr rst u14 ha hr => ?_)
  · intro K15 h15
    exact ⟨fun _ => aw (hub9.trans l14), fun e => absurd e hne⟩
  intro K15 h15
  have l14 := hub9.trans ha.le
  have hk := askErr_ok.1 he14
  have hL : ((mkL (ixRows X')).map Rw.pr).Perm (ixRows X') := by rw [mkL_pr]
  have hrok := ix_rok hX' hf' hL
  obtain ⟨_, _, hql, hvq⟩ := vcheck_ok hk.1
  have hqok : Qok (mkL (ixRows X')) q := ⟨hvq, by rw [hql]; exact hrok⟩
  obtain ⟨hS, _, _⟩ := ix_sound3 hX' he14 hL hqok hr
  refine ⟨fun hx => absurd rfl hx, fun _ => spec.theodoliteref05_Certain ha.read (hq.mono l14) hvq hk.2.1 (hS.dok hqok) (fun r hrm => (hS.reg r hrm).1) ?_⟩
  by_cases hcert : CertA q k (ixH X' q k bud) rst
  · rw [decide_eq_true hcert]
    refine ⟨fun hx => absurd rfl hx, fun _ => h15 _ _ ?_⟩
    have i14 := hX'.mono ha.le
    refine spec.ix_Rows i14 fun s18 ls u19 hR hpr _ => ?_
    have l19 : u.le u19 := l14.trans hR.own.le
    refine spec.TopK hR.rws (hq.mono l19) fun s20 x21 u22 hres => ?_
    have hrokl := ix_rok i14 hf' hpr
    have he0 : askErr q X'.dim k 1000000 = 0 := askErr_ok.2 ⟨hk.1, hk.2.1, hk.2.2.1, by omega, by omega⟩
    have ex : x21 = 0 := by rw [hres.err, top_ask hd hrokl, he0]
    obtain ⟨L2, hH2, _, e1, _⟩ := hres.hts
    have eL : ixH X' q k bud = L2 := by
      rw [hS.certain hqok hk.2.1 hcert, e1 ex]
      have z1 : ((mkL (ixRows X')).map (hitOf q)).Perm ((mkL (ls.map Rw.pr)).map (hitOf q)) := (mkL_perm hpr.symm).map _
      have z2 : (mkL (ls.map Rw.pr)).map (hitOf q) = ls.map (hitOf q) := by
        unfold mkL
        rw [List.map_map, List.map_map]
        rfl
      rw [topk_eq z1, z2]
    refine spec.theodolitelaw08_awake (hTab.mono (l19.trans hres.1)) fun u24 l24 => ⟨fun _ => ⟨fun _ => ?_, fun hx => absurd ex hx⟩, fun e => (by cases e)⟩
    exact spec.theodolitekeep_Hits (ha.read.h.mono ((hR.own.le.trans hres.1).trans l24)) (hH2.mono l24) (fin (decide_eq_true eL) ((l19.trans hres.1).trans l24))
  · rw [decide_eq_false hcert]
    exact ⟨fun _ => aw l14, fun e => (by cases e)⟩
end Go.Proofs.YtncgdoeobblnkaaGreat
