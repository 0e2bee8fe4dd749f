/- FlatRange: whatever rows, vector and radius, the statement's function answers true. -/
import Derived.Test.YtgfafpiinencpaaVcLawA
namespace Go.Proofs.Ytgfafpiinencpaa

theorem law.FlatRange {s t : Sl} {l : List Rw} {q : List Int} {hi lo : Int} {u : H} {K : Bool → H → Prop} (hc : Come u s t l q) (hhi : U64 hi) (hlo : U64 lo) (h : ∀ u', u.le u' → K true u') : C.theodolitelaw05_FlatRange s t hi lo u K := by
  apply vc.theodolitelaw05_FlatRange
  refine spec.theodolitelaw05_big hc ⟨fun _ => h u (H.le.refl u), fun hb => by cases hb⟩ fun _ _ => ⟨fun hb => (by cases hb), fun _ => ?_⟩
  refine spec.flat_Range hc.rows hc.q hlo (fun hne u4 l4 => ?_) fun hq s2 u4 o2 => ?_
  · refine spec.theodoliteref05_Range (hc.rows.mono l4) (hc.q.mono l4) hhi hlo (fun _ => ?_) (fun hq => absurd (asked_ok.2 hq) hne)
    refine spec.theodolitelaw05_awake fun u9 l9 => ⟨fun _ => ⟨fun _ => ?_, fun he => absurd rfl he⟩, fun hb => by cases hb⟩
    exact spec.theodolitekeep_Hits (a := []) (b := []) (OwnF.nil (H.le.refl u9) 0 3).own.seg (OwnF.nil (H.le.refl u9) 0 3).own.seg (h u9 (l4.trans l9))
  · refine spec.theodoliteref05_Range (hc.rows.mono o2.le) (hc.q.mono o2.le) hhi hlo (fun hne => absurd (asked_ok.2 hq) hne) fun _ s5 u7 l7 h5 => ?_
    refine spec.theodolitelaw05_awake fun u9 l9 => ⟨fun _ => ⟨fun _ => ?_, fun he => absurd rfl he⟩, fun hb => by cases hb⟩
    refine spec.theodolitekeep_Hits (o2.hts.mono (l7.trans l9)) (h5.mono l9) ?_
    rw [decide_eq_true rfl]
    exact h u9 ((o2.le.trans l7).trans l9)

end Go.Proofs.Ytgfafpiinencpaa
