/- Texts of mine, joined by merge.py: VcLawTC. -/
import Derived.Test.YtncninpdlpemgaaGreatMrb9
set_option maxRecDepth 100000

/- VcLawTC -/
namespace Go.Proofs.YtncninpdlpemgaaGreat

open Classical in
theorem law.KdtreeSure {s t qs : Sl} {l : List Rw} {ops : List Cll} {q : List Int} {A B seed k bud : Int} {u : H} {K : Bool → H → Prop} (hTab : TabU u) (hc : Come2 u s t l ops) (hU : U64 seed) (hq : Ints u qs q) (h : ∀ u', u.le u' → K true u') :
    C.theodolitelaw07_KdtreeSure s A B seed t qs k bud u K := by
  have hqn := hq.len
  apply vc.theodolitelaw07_KdtreeSure
  intro K0 h0
  refine spec.theodolitelaw07_big hc ⟨fun _ => h u (H.le.refl u), fun e => (by cases e)⟩ fun _ hol _ _ => ⟨fun e => (by cases e), fun _ => ⟨fun _ => h u (H.le.refl u), fun _ => h0 _ _ ?_⟩⟩
  refine spec.ix_Build hc.rows hTab hU (fun hne => ?_) (fun he b D X u5 hX hp hdim hlinks hg0 => ?_)
  · intro K6 h6
    exact ⟨fun _ => spec.theodolitelaw07_awake hTab h, fun e => absurd e hne⟩
  intro K6 h6
  refine ⟨fun hx => absurd rfl hx, fun _ => ⟨fun e => (by cases e), fun _ => h6 _ _ ?_⟩⟩
  refine spec.theodolitelaw07_plays hX (ixErr_few he hp) (by omega) hTab hc.calls hc.tn fun u9 D' X' hX' hf' hd' _ _ hgx => ?_
  have hd : X'.dim = q.length := by rw [hd', hdim, hqn]
  have hub9 := hX'.base.1
  have fin : ∀ {bb : Bool} {v : H}, bb = true → u.le v → K bb v := fun hb hv => by rw [hb]; exact h _ hv
  have aw : ∀ {v : H}, u.le v → C.theodolitelaw07_awake v (fun (b44 : Bool) (u45 : H) => K b44 u45) := fun lv => spec.theodolitelaw07_awake (hTab.mono lv) fun u' l' => h _ (lv.trans l')
  refine spec.ix_Search hX' (by omega) (hq.mono hub9) (fun hne u14 l14 => ?_) (fun he14 sh ss sr rst u14 ha hr => ?_)
  · intro K15 h15
    exact ⟨fun _ => aw (hub9.trans l14), fun e => absurd e hne⟩
  intro K15 h15
  have l14 := hub9.trans ha.le
  have hk := askErr_ok.1 he14
  have hL : ((mkL (ixRows X')).map Rw.pr).Perm (ixRows X') := by rw [mkL_pr]
  have hrok := ix_rok hX' hf' hL
  obtain ⟨_, _, hql, hvq⟩ := vcheck_ok hk.1
  have hqok : Qok (mkL (ixRows X')) q := ⟨hvq, by rw [hql]; exact hrok⟩
  obtain ⟨hS, _, _⟩ := ix_sound3 hX' he14 hL hqok hr
  refine ⟨fun hx => absurd rfl hx, fun _ => spec.theodoliteref05_Certain ha.read (hq.mono l14) hvq hk.2.1 (hS.dok hqok) (fun r hrm => (hS.reg r hrm).1) ?_⟩
  by_cases hcert : CertA q k (ixH X' q k bud) rst
  · rw [decide_eq_true hcert]
    refine ⟨fun hx => absurd rfl hx, fun _ => h15 _ _ ?_⟩
    have i14 := hX'.mono ha.le
    refine spec.ix_Rows i14 fun s18 ls u19 hR hpr _ => ?_
    have l19 : u.le u19 := l14.trans hR.own.le
    refine spec.TopK hR.rws (hq.mono l19) fun s20 x21 u22 hres => ?_
    have hrokl := ix_rok i14 hf' hpr
    have he0 : askErr q X'.dim k 1000000 = 0 := askErr_ok.2 ⟨hk.1, hk.2.1, hk.2.2.1, by omega, by omega⟩
    have ex : x21 = 0 := by rw [hres.err, top_ask hd hrokl, he0]
    obtain ⟨L2, hH2, _, e1, _⟩ := hres.hts
    have eL : ixH X' q k bud = L2 := by
      rw [hS.certain hqok hk.2.1 hcert, e1 ex]
      have z1 : ((mkL (ixRows X')).map (hitOf q)).Perm ((mkL (ls.map Rw.pr)).map (hitOf q)) := (mkL_perm hpr.symm).map _
      have z2 : (mkL (ls.map Rw.pr)).map (hitOf q) = ls.map (hitOf q) := by
        unfold mkL
        rw [List.map_map, List.map_map]
        rfl
      rw [topk_eq z1, z2]
    refine spec.theodolitelaw07_awake (hTab.mono (l19.trans hres.1)) fun u24 l24 => ⟨fun _ => ⟨fun _ => ?_, fun hx => absurd ex hx⟩, fun e => (by cases e)⟩
    exact spec.theodolitekeep_Hits (ha.read.h.mono ((hR.own.le.trans hres.1).trans l24)) (hH2.mono l24) (fin (decide_eq_true eL) ((l19.trans hres.1).trans l24))
  · rw [decide_eq_false hcert]
    exact ⟨fun _ => aw l14, fun e => (by cases e)⟩
end Go.Proofs.YtncninpdlpemgaaGreat
