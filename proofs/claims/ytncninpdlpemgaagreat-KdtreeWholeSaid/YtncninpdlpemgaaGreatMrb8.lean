/- Texts of mine, joined by merge.py: VcDone, VcPop, VcRest, VcWlk0, VcWlk1, VcWlk2, VcWlk3, VcWalkS, VcWlk4, VcWlk5, VcKd3, VcKd4, VcPn2, VcKd5, VcPn3, VcKd6, VcKd7. -/
import Derived.Test.YtncninpdlpemgaaGreatMrb7
set_option maxRecDepth 100000

/- VcDone -/
namespace Go.Proofs.YtncninpdlpemgaaGreat

theorem spec.topk_Heap__Len {u : H} {n : Nat} {k : Int} {s : Sl} {K : Int → H → Prop} (hn : u n = some (.cells #[.int .i64 k, .slice s.a s.n s.c] 129 (0, 0))) (hK : K s.n u) : C.topk_Heap__Len (some ⟨n, 0, none⟩) u K := by
  apply vc.topk_Heap__Len
  exact ⟨fun e => (by cases e), fun _ => ⟨_, rfl, s, H.cell?_of hn 1, hK⟩⟩

/-- The last of a sorted list is the one that none is behind. -/
theorem srt_last {l : List Hit} (hs : Srt l) {x : Hit} (hx : x ∈ l) (hm : ∀ y ∈ l, hlt x y = false) : l.getD (l.length - 1) default = x := by
  have hl : 0 < l.length := List.length_pos_iff.2 fun e => by rw [e] at hx; cases hx
  obtain ⟨i, hi, rfl⟩ := List.getElem_of_mem hx
  have hl1 : l.length - 1 < l.length := by omega
  rw [List.getD_eq_getElem?_getD, List.getElem?_eq_getElem hl1]
  show l[l.length - 1] = l[i]
  by_cases e : i = l.length - 1
  · subst e; rfl
  · have h1 := List.pairwise_iff_getElem.1 hs i (l.length - 1) hi hl1 (by omega)
    exact hlt_eq (hm _ (List.getElem_mem hl1)) h1

theorem spec.flat_Walk_2 {u0 u : H} {N n4 : Nat} {k hi lo : Int} {S : List Hit} {K : Bool → H → Prop} (h : TopAt u0 N k u S) (k1 : 1 ≤ k) (hd : ∀ g ∈ S, Dok g.2) (hn4 : u.cell? ⟨n4, 0, none⟩ = some (.pointer (some ⟨N, 0, none⟩))) (_h1 : U64 hi) (h2 : U64 lo)
    (hK : ∀ bb : Bool, (bb = true ↔ k ≤ (S.length : Int) ∧ ((topk k.toNat S).getD (k.toNat - 1) default).2 < wv hi lo) → K bb u) : C.flat_Walk_2 hi lo ⟨n4, 0, none⟩ u K := by
  obtain ⟨l, hst, hh, hp⟩ := h
  obtain ⟨s, hn, ho, hne⟩ := hst.ex
  have hsn := ho.hts.len
  have hlen := hp.length_eq
  rw [topk_len] at hlen
  apply vc.flat_Walk_2
  refine ⟨_, hn4, ?_⟩
  apply vc.topk_Heap__Worst
  have full : ∀ {x2 x3 : Int}, U64 x3 → ((s.n : Int) = k → wv x2 x3 = ((topk k.toNat S).getD (k.toNat - 1) default).2) → C.topk_Heap__Full (some ⟨N, 0, none⟩) u (fun (b7 : Bool) (u8 : H) => ((b7 = Bool.true) → C.wide_Cmp hi lo x2 x3 u8 (fun (x9 : Int) (u10 : H) => K (decide ((0 : Int) < x9)) u10)) ∧ ((b7 = Bool.false) → K Bool.false u8)) := by
    intro x2 x3 hx3 hw
    apply vc.topk_Heap__Full
    refine ⟨fun _ => ⟨_, rfl, _, rfl, s, H.cell?_of hn 1, _, H.cell?_of hn 0, fun hb => ?_, fun hb => ?_⟩, fun e => (by cases e)⟩
    · have he := of_decide_eq_true hb
      refine spec.wide_Cmp h2 hx3 ?_
      rw [hw he]
      have hks : k ≤ (S.length : Int) := by omega
      have key : ∀ z : Int, (0 < z ↔ ((topk k.toNat S).getD (k.toNat - 1) default).2 < wv hi lo) → K (decide (0 < z)) u := fun z hz => hK _ (by rw [decide_eq_true_iff, hz]; exact ⟨fun h => ⟨hks, h⟩, fun h => h.2⟩)
      refine key _ ?_
      split
      · omega
      · split <;> omega
    · have he := of_decide_eq_false hb
      exact hK _ ⟨fun e => (by cases e), fun hc => by omega⟩
  refine spec.topk_Heap__Len hn ⟨fun h0 => ⟨_, hn4, full ⟨by omega, by omega⟩ fun e => by omega⟩, fun hne0 => ?_⟩
  obtain ⟨p, hpp, g, hg, c0, c1, c2⟩ := ho.hts.at (x := 0) (by omega) (by omega)
  have hg0 : l.getD 0 default = g := by
    rw [List.getD_eq_getElem?_getD]
    have : l[(0 : Int).toNat]? = some g := hg
    rw [show (0 : Int).toNat = 0 from rfl] at this
    rw [this]; rfl
  have hgl : g ∈ l := List.mem_of_getElem? hg
  have hgt : g ∈ topk k.toNat S := hp.mem_iff.1 hgl
  have hdg : Dok g.2 := hd g ((sortH_perm _).mem_iff.1 (List.mem_of_mem_take hgt))
  have e0 : p.add ((0 : Int).toNat * 3) = p.add 0 := rfl
  rw [e0] at c0 c1 c2
  refine ⟨_, rfl, s, H.cell?_of hn 1, p, hpp, ⟨by omega, by omega⟩, _, c0, _, c1, _, c2, _, hn4, full (loU _) fun e => ?_⟩
  rw [wv_hl]
  have hL : LtOk (fun a b : Hit => hlt b a) := ⟨fun a b h => hlt_asymm h, fun a b c h k => hlt_le_trans k h⟩
  have hmax : ∀ y ∈ topk k.toNat S, hlt g y = false := fun y hy => by
    have hyl := hp.mem_iff.2 hy
    obtain ⟨i, hi, rfl⟩ := List.getElem_of_mem hyl
    have h3 : hlt (l.getD 0 default) (l.getD i default) = false := hh.root hL i hi
    have e : l.getD i default = l[i] := by rw [List.getD_eq_getElem?_getD, List.getElem?_eq_getElem hi]; rfl
    rw [e, hg0] at h3
    exact h3
  have hl := srt_last (topk_srt k.toNat S) hgt hmax
  rw [topk_len] at hl
  rw [show k.toNat - 1 = min k.toNat S.length - 1 by omega, hl]

end Go.Proofs.YtncninpdlpemgaaGreat

/- VcPop -/
namespace Go.Proofs.YtncninpdlpemgaaGreat

theorem spec.pop_part {v u : H} {n : Nat} {l : List Op1} {K : Value → H → Prop} (h : PQ v u n l) (hh : Hp blt l.length l) (hne : 0 < l.length)
    (hK : ∀ u' m, PQ v u' n (popF blt l) → PartAt v m (l.getD 0 default).2 → K (queI ((⟨m, 0, none⟩ : Addr), l.getD 0 default)) u') : C.heap_Pop (queV n) u K := by
  obtain ⟨L, hQ, hL, hall⟩ := h.ex
  have hlen : L.length = l.length := by rw [← hL, List.length_map]
  have hget : ∀ i, l.getD i default = (L.getD i default).2 := fun i => by
    rw [← hL]
    exact getD_map' (f := fun e : QE => e.2) rfl L i
  have hhL : Hp qlt L.length L := fun i i0 i1 => by
    have := hh i i0 (by omega)
    rw [hget, hget] at this
    exact this
  obtain ⟨p1, _, _, _⟩ := popF_ok queLt hhL (by omega)
  refine spec.heap_PopF (queHeap v n) queLt (V := queI) hQ hhL (by omega) (fun {u' l' x K'} hs hk => ?_) fun u' hs => ?_
  · refine que_pop hs (by simp) fun u'' hs'' => ?_
    rw [List.dropLast_concat] at hs''
    have e : (l' ++ [x]).getD ((l' ++ [x]).length - 1) default = x := by
      rw [List.getD_eq_getElem?_getD]
      simp
    rw [e]
    exact hk u'' hs''
  · have h0 : L.getD 0 default ∈ L := by
      rw [List.getD_eq_getElem?_getD, List.getElem?_eq_getElem (by omega)]
      exact List.getElem_mem (by omega)
    obtain ⟨m, hm, hp⟩ := hall _ h0
    have e : L.getD 0 default = ((⟨m, 0, none⟩ : Addr), l.getD 0 default) := by rw [hget, ← hm]
    rw [e]
    refine hK u' m ⟨popF qlt L, hs, ?_, fun y hy => hall y (p1.mem_iff.1 (List.mem_cons_of_mem _ hy))⟩ (by rw [hget]; exact hp)
    have e2 := popF_map (α := QE) (β := Op1) (lt := qlt) (lt' := blt) (f := fun e : QE => e.2) rfl (fun _ _ => rfl) L
    rw [hL] at e2
    exact e2

end Go.Proofs.YtncninpdlpemgaaGreat

/- VcRest -/
namespace Go.Proofs.YtncninpdlpemgaaGreat

theorem tRegs' : elemT Tryz.prog 51 = some (91, 6, 96, [.int .i64 0, .slice none 0 0, .slice none 0 0, .int .u64 0, .int .u64 0, .slice none 0 0]) := by kernel_rfl

structure RestAt (u0 u : H) (sr : Sl) (rest : List Rgn) : Prop where
  own : OwnF u0 u 91 6 sr (rest.flatMap encG)
  each : ∀ r ∈ rest, Own3 u0 u r
  far : (sr :: rest.flatMap Rgn.sls).Pairwise Far

theorem RestAt.mono {u0 u u' : H} {sr : Sl} {rest : List Rgn} (h : RestAt u0 u sr rest) (k : u.le u') : RestAt u0 u' sr rest :=
  ⟨h.own.mono k, fun r hr => ⟨(h.each r hr).l.mono k, (h.each r hr).h.mono k, (h.each r hr).i.mono k⟩, h.far⟩

theorem RestAt.nil {u0 u : H} (h : u0.le u) : RestAt u0 u ⟨none, 0, 0⟩ [] := ⟨OwnF.nil h _ _, fun r hr => (by cases hr), by rw [List.flatMap_nil]; exact List.pairwise_singleton _ _⟩

/-- Every slice of regions of one's own is known. -/
theorem own3_sls {u0 u : H} {r : Rgn} (h : Own3 u0 u r) : ∀ s ∈ r.sls, ∃ xs, OwnF u0 u 3 1 s xs := by
  intro s hs
  simp only [Rgn.sls, List.mem_cons, List.not_mem_nil, or_false] at hs
  rcases hs with rfl | rfl | rfl
  · exact ⟨_, h.l⟩
  · exact ⟨_, h.h⟩
  · exact ⟨_, h.i⟩

theorem rest_push {u0 u1 u : H} {sr : Sl} {rest : List Rgn} {r : Rgn} {K : Sl → H → Prop} (h : RestAt u0 u1 sr rest) (hu : u1.le u) (hr : Own3 u1 u r) (f1 : Far r.ls r.hs) (f2 : Far r.ls r.is) (f3 : Far r.hs r.is) (hl : rest.length ≤ 10000000)
    (hK : ∀ s' u', RestAt u0 u' s' (rest ++ [r]) → Else u u' sr → (∀ g, s'.blk = some g → sr.blk = some g ∨ u g = none) → K s' u') :
    SemT Tryz.prog (Instr.buildSlice 51 1 #[(0, .agg #[.int .i64 r.sh, .slice r.ls.a r.ls.n r.ls.c, .slice r.hs.a r.hs.n r.hs.c, .int .u64 (hiW r.rad), .int .u64 (loW r.rad), .slice r.is.a r.is.n r.is.c])]) [.one .slice] u fun s1 v1 => u.le v1 ∧ SemT Tryz.prog (Builtin.append_ #[51, 51] 51 #[.slice sr.a sr.n sr.c, .slice s1.a s1.n s1.c]) [.one .slice] v1 K := by
  have hm := h.mono hu
  have hn : sr.n = rest.length := flat_n encG_len (by decide) hm.own.own.seg
  have u01 : u0.le u1 := h.own.le
  have hr0 : Own3 u0 u r := ⟨hr.l.weaken u01, hr.h.weaken u01, hr.i.weaken u01⟩
  have hall : ∀ x ∈ rest ++ [r], Own3 u0 u x := fun x hx => by
    rcases List.mem_append.1 hx with hx | hx
    · exact hm.each x hx
    · rw [List.mem_singleton.1 hx]; exact hr0
  have farNew : ∀ s ∈ r.sls, Far sr s ∧ ∀ t ∈ rest.flatMap Rgn.sls, Far t s := fun s hs => by
    obtain ⟨xs, hx⟩ := own3_sls hr s hs
    refine ⟨OwnF.far h.own (H.le.refl u1) hx, fun t ht => ?_⟩
    obtain ⟨y, hy, hty⟩ := List.mem_flatMap.1 ht
    obtain ⟨ys, hy2⟩ := own3_sls (h.each y hy) t hty
    exact OwnF.far hy2 (H.le.refl u1) hx
  have hf := h.far
  rw [List.pairwise_cons] at hf
  refine sem_push tRegs' (build_region r.ls r.hs r.is r.sh (hiW r.rad) (loW r.rad)) (by decide) rfl (by simp [Value.oneCell']) hm.own (by omega) (by omega) fun s' u' ho hn' hel hbl _ => hK s' u' ⟨?_, fun x hx => ?_, ?_⟩ hel hbl
  · rw [List.flatMap_append]
    exact ho
  · have hk : Keep [sr] u u' := fun b o hb hd => hel b o hb (hd sr (List.mem_cons_self ..))
    refine hk.own3 (hall x hx) (fun s hs g hg => by rw [List.mem_singleton.1 hs] at hg; exact hm.own.fresh g hg) fun s hs t ht => ?_
    rw [List.mem_singleton.1 hs]
    rcases List.mem_append.1 hx with hx | hx
    · exact hf.1 t (List.mem_flatMap.2 ⟨x, hx, ht⟩)
    · rw [List.mem_singleton.1 hx] at ht; exact (farNew t ht).1
  · rw [List.flatMap_append, List.pairwise_cons]
    have hsing : [r].flatMap Rgn.sls = r.sls := by simp
    rw [hsing]
    refine ⟨fun t ht => ?_, List.pairwise_append.2 ⟨hf.2, ?_, fun t ht s hs => (farNew s hs).2 t ht⟩⟩
    · intro g hg hg2
      have hfar : Far sr t := by
        rcases List.mem_append.1 ht with h1 | h1
        · exact hf.1 t h1
        · exact (farNew t h1).1
      have hown : ∃ xs, OwnF u0 u 3 1 t xs := by
        rcases List.mem_append.1 ht with h1 | h1
        · obtain ⟨y, hy, hty⟩ := List.mem_flatMap.1 h1
          exact own3_sls (hm.each y hy) t hty
        · exact own3_sls hr0 t h1
      obtain ⟨xs, hx⟩ := hown
      rcases hbl g hg with h1 | h1
      · exact hfar g h1 hg2
      · exact own_known hx hg2 h1
    · simp only [Rgn.sls, List.pairwise_cons, List.mem_cons, List.not_mem_nil, or_false, forall_eq_or_imp, forall_eq, List.Pairwise.nil, and_true]
      exact ⟨⟨f1, f2⟩, f3, fun _ h => h.elim⟩

end Go.Proofs.YtncninpdlpemgaaGreat

/- VcWlk0 -/
namespace Go.Proofs.YtncninpdlpemgaaGreat

/-- What lies beside a part of memory that turns. -/
theorem Framed.beside {v a u a' u' b : H} (hf : Framed a u a' u') (hva' : v.le a') (hb : b.le u) (hvb : v.le b) (hap : ∀ c, a c ≠ none → b c ≠ none → v c ≠ none) : b.le u' ∧ ∀ c, a' c ≠ none → b c ≠ none → v c ≠ none := by
  refine ⟨fun c o hc => ?_, fun c h1 h2 => ?_⟩
  · cases e : a c with
    | none => exact (hf.out c o e (hb c o hc)).2
    | some o' =>
      obtain ⟨o2, h2⟩ := Option.ne_none_iff_exists'.1 (hap c (by rw [e]; simp) (by rw [hc]; simp))
      have h3 := hvb c o2 h2
      rw [hc] at h3
      cases h3
      exact hf.le c o (hva' c o h2)
  · cases e : a c with
    | none =>
      obtain ⟨o, ho⟩ := Option.ne_none_iff_exists'.1 h2
      exact absurd (hf.out c o e (hb c o ho)).1 h1
    | some o' => exact hap c (by rw [e]; simp) h2

structure WI (v u : H) (N n6 : Nat) (k : Int) (S : List Hit) (l : List Op1) (ids : List Int) (ss sr : Sl) (R : List Rgn) : Prop where
  ex : ∃ uT uQ, uT.le u ∧ uQ.le u ∧ v.le uT ∧ v.le uQ ∧ (∀ c, uT c ≠ none → uQ c ≠ none → v c ≠ none) ∧ TopAt v N k uT S ∧ PQ v uQ n6 l ∧ (∀ s ∈ ss :: sr :: R.flatMap Rgn.sls, ∀ g, s.blk = some g → uT g = none ∧ uQ g = none)
  seen : OwnF v u 3 1 ss (ids.flatMap encI)
  rest : RestAt v u sr R
  far : ∀ s ∈ sr :: R.flatMap Rgn.sls, Far ss s

theorem WI.le {v u : H} {N n6 : Nat} {k : Int} {S : List Hit} {l : List Op1} {ids : List Int} {ss sr : Sl} {R : List Rgn} (h : WI v u N n6 k S l ids ss sr R) : v.le u := h.seen.le

/-- All slices of one's own are known. -/
theorem WI.known {v u : H} {N n6 : Nat} {k : Int} {S : List Hit} {l : List Op1} {ids : List Int} {ss sr : Sl} {R : List Rgn} (h : WI v u N n6 k S l ids ss sr R) : ∀ s ∈ ss :: sr :: R.flatMap Rgn.sls, ∀ g, s.blk = some g → u g ≠ none := by
  intro s hs g hg
  rcases List.mem_cons.1 hs with rfl | hs
  · exact own_known h.seen hg
  · rcases List.mem_cons.1 hs with rfl | hs
    · exact own_known h.rest.own hg
    · obtain ⟨y, hy, hty⟩ := List.mem_flatMap.1 hs
      obtain ⟨xs, hx⟩ := own3_sls (h.rest.each y hy) s hty
      exact own_known hx hg

/-- Slices of one's own stay where their blocks do. -/
theorem RestAt.stay {v u u' : H} {sr : Sl} {R : List Rgn} (h : RestAt v u sr R) (hv : v.le u') (hs : ∀ s ∈ sr :: R.flatMap Rgn.sls, ∀ g o, s.blk = some g → u g = some o → u' g = some o) : RestAt v u' sr R := by
  have one : ∀ {e k : Nat} {s : Sl} {xs : List Value}, OwnF v u e k s xs → s ∈ sr :: R.flatMap Rgn.sls → OwnF v u' e k s xs := fun ho hm => ⟨ho.own.le fun b o hb hu => hs _ hm b o hb hu, hv, ho.fresh⟩
  refine ⟨one h.own (List.mem_cons_self ..), fun r hr => ?_, h.far⟩
  have hm : ∀ s ∈ r.sls, s ∈ sr :: R.flatMap Rgn.sls := fun s hs => List.mem_cons_of_mem _ (List.mem_flatMap.2 ⟨r, hr, hs⟩)
  exact ⟨one (h.each r hr).l (hm _ (by simp [Rgn.sls])), one (h.each r hr).h (hm _ (by simp [Rgn.sls])), one (h.each r hr).i (hm _ (by simp [Rgn.sls]))⟩

theorem spec.wi_Offer {v u : H} {N n6 : Nat} {k : Int} {S : List Hit} {l : List Op1} {ids : List Int} {ss sr : Sl} {R : List Rgn} {x : Hit} {K : Bool → H → Prop} (h : WI v u N n6 k S l ids ss sr R) (k1 : 1 ≤ k) (k2 : k ≤ 64)
    (hK : ∀ b u', WI v u' N n6 k (x :: S) l ids ss sr R → K b u') : C.topk_Heap__Offer (some ⟨N, 0, none⟩) x.1 (hiW x.2) (loW x.2) u K := by
  obtain ⟨uT, uQ, t1, q1, t2, q2, hap, hT, hQ, hfr⟩ := h.ex
  have hc := spec.topk_Heap__Offer (K := fun _ u' => TopAt v N k u' (x :: S)) hT k1 k2 fun b u' h' => h'
  refine hc.frame t1 ?_
  intro b uT' u' hf hT'
  have hv' := hT'.le
  obtain ⟨b1, b2⟩ := hf.beside hv' q1 q2 hap
  have stay : ∀ s ∈ ss :: sr :: R.flatMap Rgn.sls, ∀ g o, s.blk = some g → u g = some o → uT' g = none ∧ u' g = some o := fun s hs g o hg ho => hf.out g o (hfr s hs g hg).1 ho
  refine hK b u' ⟨⟨uT', uQ, hf.le, b1, hv', q2, b2, hT', hQ, fun s hs g hg => ?_⟩, ⟨h.seen.own.le fun g o hg ho => (stay _ (List.mem_cons_self ..) g o hg ho).2, hv'.trans hf.le, h.seen.fresh⟩, h.rest.stay (hv'.trans hf.le) fun s hs g o hg ho => (stay s (List.mem_cons_of_mem _ hs) g o hg ho).2, h.far⟩
  obtain ⟨o, ho⟩ := Option.ne_none_iff_exists'.1 (h.known s hs g hg)
  exact ⟨(stay s hs g o hg ho).1, (hfr s hs g hg).2⟩

/-- A step of the queue. -/
theorem WI.queue {v u uT uQ uQ' u' : H} {N n6 : Nat} {k : Int} {S : List Hit} {l l' : List Op1} {ids : List Int} {ss sr : Sl} {R : List Rgn} (h : WI v u N n6 k S l ids ss sr R) (t1 : uT.le u) (t2 : v.le uT) (hap : ∀ c, uT c ≠ none → uQ c ≠ none → v c ≠ none)
    (hT : TopAt v N k uT S) (hfr : ∀ s ∈ ss :: sr :: R.flatMap Rgn.sls, ∀ g, s.blk = some g → uT g = none ∧ uQ g = none) (hf : Framed uQ u uQ' u') (hv' : v.le uQ') (hQ' : PQ v uQ' n6 l') : WI v u' N n6 k S l' ids ss sr R := by
  obtain ⟨b1, b2⟩ := hf.beside hv' t1 t2 fun c h1 h2 => hap c h2 h1
  have stay : ∀ s ∈ ss :: sr :: R.flatMap Rgn.sls, ∀ g o, s.blk = some g → u g = some o → uQ' g = none ∧ u' g = some o := fun s hs g o hg ho => hf.out g o (hfr s hs g hg).2 ho
  refine ⟨⟨uT, uQ', b1, hf.le, t2, hv', fun c h1 h2 => b2 c h2 h1, hT, hQ', fun s hs g hg => ?_⟩, ⟨h.seen.own.le fun g o hg ho => (stay _ (List.mem_cons_self ..) g o hg ho).2, hv'.trans hf.le, h.seen.fresh⟩, h.rest.stay (hv'.trans hf.le) fun s hs g o hg ho => (stay s (List.mem_cons_of_mem _ hs) g o hg ho).2, h.far⟩
  obtain ⟨o, ho⟩ := Option.ne_none_iff_exists'.1 (h.known s hs g hg)
  exact ⟨(hfr s hs g hg).1, (stay s hs g o hg ho).1⟩

end Go.Proofs.YtncninpdlpemgaaGreat

/- VcWlk1 -/
namespace Go.Proofs.YtncninpdlpemgaaGreat

theorem PQ.le {v u : H} {n : Nat} {l : List Op1} (h : PQ v u n l) : v.le u := by
  obtain ⟨L, hQ, _, _⟩ := h.ex
  obtain ⟨s, _, ho, _⟩ := hQ.ex
  exact ho.le

theorem spec.wi_add {v u : H} {N n6 n0 m : Nat} {k : Int} {S : List Hit} {l : List Op1} {ids : List Int} {ss sr : Sl} {R : List Rgn} {s : Sl} {q : List Int} {p : Pt} {K : H → Prop} (h : WI v u N n6 k S l ids ss sr R) (hl : l.length < 10000000) (hp : PartAt v m p)
    (hok : RegOk (p.rgn []) q.length) (hq : vok q) (hn0 : v.cell? ⟨n0, 0, none⟩ = some (.slice s.a s.n s.c)) (hs : Ints v s q) (hK : ∀ u', WI v u' N n6 k S (addW q l p) ids ss sr R → K u') : C.flat_Walk_1 (some ⟨m, 0, none⟩) ⟨n0, 0, none⟩ ⟨n6, 0, none⟩ u K := by
  obtain ⟨uT, uQ, t1, q1, t2, q2, hap, hT, hQ, hfr⟩ := h.ex
  have hc := spec.flat_Walk_1 (K := fun u' => PQ v u' n6 (addW q l p)) hQ q2 hl hp hok hq (q2.cell hn0) (hs.mono q2) fun u' h' => h'
  refine hc.frame q1 ?_
  intro uQ' u' hf hQ'
  exact hK u' (h.queue t1 t2 hap hT hfr hf hQ'.le hQ')

theorem spec.wi_pop {v u : H} {N n6 : Nat} {k : Int} {S : List Hit} {l : List Op1} {ids : List Int} {ss sr : Sl} {R : List Rgn} {K : Value → H → Prop} (h : WI v u N n6 k S l ids ss sr R) (hh : Hp blt l.length l) (hne : 0 < l.length)
    (hK : ∀ u' m, WI v u' N n6 k S (popF blt l) ids ss sr R → PartAt v m (l.getD 0 default).2 → K (queI ((⟨m, 0, none⟩ : Addr), l.getD 0 default)) u') : C.heap_Pop (queV n6) u K := by
  obtain ⟨uT, uQ, t1, q1, t2, q2, hap, hT, hQ, hfr⟩ := h.ex
  have hc := spec.pop_part (K := fun x u' => ∃ m, x = queI ((⟨m, 0, none⟩ : Addr), l.getD 0 default) ∧ PQ v u' n6 (popF blt l) ∧ PartAt v m (l.getD 0 default).2) hQ hh hne fun u' m h1 h2 => ⟨m, rfl, h1, h2⟩
  refine hc.frame q1 ?_
  rintro x uQ' u' hf ⟨m, rfl, hQ', hp⟩
  exact hK u' m (h.queue t1 t2 hap hT hfr hf hQ'.le hQ') hp

theorem TopAt.whole {v u uT : H} {N : Nat} {k : Int} {S : List Hit} (h : TopAt v N k uT S) (hu : uT.le u) : TopAt v N k u S := h.mono hu

theorem spec.wi_done {v u : H} {N n6 n4 : Nat} {k hi lo : Int} {S : List Hit} {l : List Op1} {ids : List Int} {ss sr : Sl} {R : List Rgn} {K : Bool → H → Prop} (h : WI v u N n6 k S l ids ss sr R) (k1 : 1 ≤ k) (hd : ∀ g ∈ S, Dok g.2)
    (hn4 : v.cell? ⟨n4, 0, none⟩ = some (.pointer (some ⟨N, 0, none⟩))) (h1 : U64 hi) (h2 : U64 lo) (hK : ∀ bb : Bool, (bb = true ↔ k ≤ (S.length : Int) ∧ ((topk k.toNat S).getD (k.toNat - 1) default).2 < wv hi lo) → K bb u) : C.flat_Walk_2 hi lo ⟨n4, 0, none⟩ u K := by
  obtain ⟨uT, uQ, t1, q1, t2, q2, hap, hT, hQ, hfr⟩ := h.ex
  exact spec.flat_Walk_2 (hT.whole t1) k1 hd (h.le.cell hn4) h1 h2 hK

end Go.Proofs.YtncninpdlpemgaaGreat

/- VcWlk2 -/
namespace Go.Proofs.YtncninpdlpemgaaGreat

theorem le_none {a u : H} (h : a.le u) {g : Nat} (hg : u g = none) : a g = none := by
  cases e : a g with
  | none => rfl
  | some o => have := h g o e; rw [hg] at this; cases this

/-- An id more is seen. -/
theorem wi_see {v u : H} {N n6 : Nat} {k : Int} {S : List Hit} {l : List Op1} {ids : List Int} {ss sr : Sl} {R : List Rgn} {x : Int} {K : Sl → H → Prop} (h : WI v u N n6 k S l ids ss sr R) (hl : ids.length < 10000000)
    (hK : ∀ s' u', WI v u' N n6 k S l (ids ++ [x]) s' sr R → K s' u') :
    SemT Tryz.prog (Instr.buildSlice 41 1 #[(0, .int .i64 x)]) [.one .slice] u fun s1 u1 => SemT Tryz.prog (Builtin.append_ #[41, 41] 41 #[.slice ss.a ss.n ss.c, .slice s1.a s1.n s1.c]) [.one .slice] u1 K := by
  obtain ⟨uT, uQ, t1, q1, t2, q2, hap, hT, hQ, hfr⟩ := h.ex
  have hn := h.seen.ints.len
  refine sem_push' tInts (build_int _) (by decide) rfl (by simp [Value.oneCell']) h.seen (by omega) (by omega) fun s' u' ho hn' hel hbl _ => hK s' u' ?_
  have fresh : ∀ g, s'.blk = some g → uT g = none ∧ uQ g = none := fun g hg => by
    rcases hbl g hg with h1 | h1
    · exact hfr ss (List.mem_cons_self ..) g h1
    · exact ⟨le_none t1 h1, le_none q1 h1⟩
  have stayO : ∀ {w : H}, w.le u → (∀ g, ss.blk = some g → w g = none) → w.le u' := fun hw hg b o hb => hel b o (hw b o hb) fun e => by rw [hg b e] at hb; cases hb
  have far' : ∀ s ∈ sr :: R.flatMap Rgn.sls, Far s' s := fun s hs g hg hg2 => by
    rcases hbl g hg with h1 | h1
    · exact h.far s hs g h1 hg2
    · exact h.known s (List.mem_cons_of_mem _ hs) g hg2 h1
  refine ⟨⟨uT, uQ, stayO t1 fun g hg => (hfr ss (List.mem_cons_self ..) g hg).1, stayO q1 fun g hg => (hfr ss (List.mem_cons_self ..) g hg).2, t2, q2, hap, hT, hQ, fun s hs g hg => ?_⟩, ?_, h.rest.stay ho.le fun s hs g o hg ho' => hel g o ho' fun e => h.far s hs g e hg, far'⟩
  · rcases List.mem_cons.1 hs with rfl | hs
    · exact fresh g hg
    · exact hfr s (List.mem_cons_of_mem _ hs) g hg
  · rw [List.flatMap_append]
    exact ho

/-- A region more is left. -/
theorem wi_left {v u w : H} {N n6 : Nat} {k : Int} {S : List Hit} {l : List Op1} {ids : List Int} {ss sr : Sl} {R : List Rgn} {r : Rgn} {K : Sl → H → Prop} (h : WI v u N n6 k S l ids ss sr R) (hw : u.le w) (hr : Own3 u w r) (f1 : Far r.ls r.hs) (f2 : Far r.ls r.is) (f3 : Far r.hs r.is) (hl : R.length ≤ 10000000)
    (hK : ∀ s' u', WI v u' N n6 k S l ids ss s' (R ++ [r]) → Else w u' sr → (∀ g, s'.blk = some g → sr.blk = some g ∨ w g = none) → K s' u') :
    SemT Tryz.prog (Instr.buildSlice 51 1 #[(0, .agg #[.int .i64 r.sh, .slice r.ls.a r.ls.n r.ls.c, .slice r.hs.a r.hs.n r.hs.c, .int .u64 (hiW r.rad), .int .u64 (loW r.rad), .slice r.is.a r.is.n r.is.c])]) [.one .slice] w fun s1 v1 => w.le v1 ∧ SemT Tryz.prog (Builtin.append_ #[51, 51] 51 #[.slice sr.a sr.n sr.c, .slice s1.a s1.n s1.c]) [.one .slice] v1 K := by
  obtain ⟨uT, uQ, t1, q1, t2, q2, hap, hT, hQ, hfr⟩ := h.ex
  refine rest_push h.rest hw hr f1 f2 f3 hl fun s' u' hR hel hbl => hK s' u' ?_ hel hbl
  have newS : ∀ s ∈ r.sls, ∃ xs, OwnF u w 3 1 s xs := own3_sls hr
  have fresh : ∀ s ∈ ss :: s' :: (R ++ [r]).flatMap Rgn.sls, ∀ g, s.blk = some g → uT g = none ∧ uQ g = none := fun s hs g hg => by
    rcases List.mem_cons.1 hs with rfl | hs
    · exact hfr _ (List.mem_cons_self ..) g hg
    · rcases List.mem_cons.1 hs with rfl | hs
      · rcases hbl g hg with h1 | h1
        · exact hfr sr (by simp) g h1
        · exact ⟨le_none (t1.trans hw) h1, le_none (q1.trans hw) h1⟩
      · rw [List.flatMap_append] at hs
        rcases List.mem_append.1 hs with hs | hs
        · exact hfr s (by simp only [List.mem_cons]; exact .inr (.inr hs)) g hg
        · obtain ⟨xs, hx⟩ := newS s (by simpa using hs)
          exact ⟨le_none t1 (hx.fresh g hg), le_none q1 (hx.fresh g hg)⟩
  have farR : Far ss sr := h.far sr (List.mem_cons_self ..)
  have keep : ∀ {z : H}, z.le u → (∀ g, sr.blk = some g → z g = none) → z.le u' := fun hz hg b o hb => hel b o (hw b o (hz b o hb)) fun e => by rw [hg b e] at hb; cases hb
  refine ⟨⟨uT, uQ, keep t1 fun g hg => (hfr sr (by simp) g hg).1, keep q1 fun g hg => (hfr sr (by simp) g hg).2, t2, q2, hap, hT, hQ, fresh⟩, ⟨h.seen.own.le fun b o hb ho => hel b o (hw b o ho) fun e => farR b hb e, hR.own.le, h.seen.fresh⟩, hR, fun s hs => ?_⟩
  rcases List.mem_cons.1 hs with rfl | hs
  · intro g hg hg2
    rcases hbl g hg2 with h1 | h1
    · exact farR g hg h1
    · have := own_known h.seen hg
      exact this (le_none hw h1)
  · rw [List.flatMap_append] at hs
    rcases List.mem_append.1 hs with hs | hs
    · exact h.far s (List.mem_cons_of_mem _ hs)
    · obtain ⟨xs, hx⟩ := newS s (by simpa using hs)
      exact OwnF.far h.seen (H.le.refl u) hx

end Go.Proofs.YtncninpdlpemgaaGreat

/- VcWlk3 -/
namespace Go.Proofs.YtncninpdlpemgaaGreat

/-- The queue as it lies there. -/
theorem PQ.slice {v u : H} {n : Nat} {l : List Op1} (h : PQ v u n l) : ∃ s : Sl, u.cell? ⟨n, 0, none⟩ = some (.slice s.a s.n s.c) ∧ s.n = l.length ∧ ∀ x : Int, 0 ≤ x → x < (s.n : Int) → ∃ p m e, s.a = some p ∧ l[x.toNat]? = some e ∧ PartAt v m e.2 ∧
    u.cell? (p.add (x.toNat * 3)) = some (.pointer (some ⟨m, 0, none⟩)) ∧ u.cell? ((p.add (x.toNat * 3)).add 1) = some (.int .u64 (hiW e.1)) ∧ u.cell? ((p.add (x.toNat * 3)).add 2) = some (.int .u64 (loW e.1)) := by
  obtain ⟨L, hQ, hL, hall⟩ := h.ex
  obtain ⟨s, hn, ho, _⟩ := hQ.ex
  refine ⟨s, H.cell?_of hn 0, by rw [ho.qs.len, ← hL, List.length_map], fun x x0 x1 => ?_⟩
  obtain ⟨p, hp, y, hy, c0, c1, c2⟩ := ho.qs.at x0 x1
  obtain ⟨m, hm, hpart⟩ := hall y (List.mem_of_getElem? hy)
  refine ⟨p, m, y.2, hp, by rw [← hL, List.getElem?_map, hy]; rfl, hpart, ?_, c1, c2⟩
  rw [hm] at c0
  exact c0

theorem WI.slice {v u : H} {N n6 : Nat} {k : Int} {S : List Hit} {l : List Op1} {ids : List Int} {ss sr : Sl} {R : List Rgn} (h : WI v u N n6 k S l ids ss sr R) : ∃ s : Sl, u.cell? ⟨n6, 0, none⟩ = some (.slice s.a s.n s.c) ∧ s.n = l.length ∧ ∀ x : Int, 0 ≤ x → x < (s.n : Int) → ∃ p m e, s.a = some p ∧ l[x.toNat]? = some e ∧ PartAt v m e.2 ∧
    u.cell? (p.add (x.toNat * 3)) = some (.pointer (some ⟨m, 0, none⟩)) ∧ u.cell? ((p.add (x.toNat * 3)).add 1) = some (.int .u64 (hiW e.1)) ∧ u.cell? ((p.add (x.toNat * 3)).add 2) = some (.int .u64 (loW e.1)) := by
  obtain ⟨uT, uQ, t1, q1, t2, q2, hap, hT, hQ, hfr⟩ := h.ex
  obtain ⟨s, h1, h2, h3⟩ := hQ.slice
  refine ⟨s, q1.cell h1, h2, fun x x0 x1 => ?_⟩
  obtain ⟨p, m, e, g1, g2, g3, g4, g5, g6⟩ := h3 x x0 x1
  exact ⟨p, m, e, g1, g2, g3, q1.cell g4, q1.cell g5, q1.cell g6⟩

theorem WI.mono {v u u' : H} {N n6 : Nat} {k : Int} {S : List Hit} {l : List Op1} {ids : List Int} {ss sr : Sl} {R : List Rgn} (h : WI v u N n6 k S l ids ss sr R) (hu : u.le u') : WI v u' N n6 k S l ids ss sr R := by
  obtain ⟨uT, uQ, t1, q1, t2, q2, hap, hT, hQ, hfr⟩ := h.ex
  exact ⟨⟨uT, uQ, t1.trans hu, q1.trans hu, t2, q2, hap, hT, hQ, hfr⟩, h.seen.mono hu, h.rest.mono hu, h.far⟩

end Go.Proofs.YtncninpdlpemgaaGreat

/- VcWalkS -/
namespace Go.Proofs.YtncninpdlpemgaaGreat

/-- What a region of a part tells, with ids of rows. -/
def coreW (x : Pt × List Prw) : Int × Int × List Int × List Int × List Int := (x.1.sh, x.1.rad, x.1.lo, x.1.hi, sortI (x.2.map (·.1)))

theorem core_rgn {r : Rgn} {p : Pt} {rows : List Prw} (h : r.core = coreW (p, rows)) : r.sh = p.sh ∧ r.rad = p.rad ∧ r.lo = p.lo ∧ r.hi = p.hi ∧ r.ids = sortI (rows.map (·.1)) := by
  simp only [Rgn.core, coreW, Prod.mk.injEq] at h
  exact ⟨h.1, h.2.1, h.2.2.1, h.2.2.2.1, h.2.2.2.2⟩

theorem near_core {r : Rgn} {p : Pt} {rows : List Prw} (h : r.core = coreW (p, rows)) (q : List Int) : nearR r q = nearR (p.rgn []) q := by
  obtain ⟨h1, h2, h3, h4, _⟩ := core_rgn h
  unfold nearR Pt.rgn
  simp only [h1, h2, h3, h4]

theorem inside_core {r : Rgn} {p : Pt} {rows : List Prw} (h : r.core = coreW (p, rows)) {v : List Int} (hi : Inside (p.rgn []) v) : Inside r v := by
  obtain ⟨h1, h2, h3, h4, _⟩ := core_rgn h
  unfold Inside Pt.rgn at *
  simp only [h1, h2, h3, h4] at *
  exact hi

theorem reg_core {r : Rgn} {p : Pt} {rows : List Prw} {d : Int} (h : r.core = coreW (p, rows)) (hp : RegOk (p.rgn []) d) (hn : (rows.map (·.1)).Nodup) (hid : ∀ x ∈ rows, 1 ≤ x.1 ∧ x.1 ≤ 1000000000) : RegOk r d := by
  obtain ⟨h1, h2, h3, h4, h5⟩ := core_rgn h
  refine ⟨hp.dim, by rw [h5]; exact sortI_rise hn, fun x hx => ?_, ?_⟩
  · rw [h5] at hx
    obtain ⟨y, hy, rfl⟩ := List.mem_map.1 ((sortI_perm _).mem_iff.1 hx)
    exact hid y hy
  · have := hp.shape
    unfold Pt.rgn at this
    simp only at this
    rw [h1, h2, h3, h4]
    exact this

theorem pick_rows {L : List Rw} : ∀ {S : List Prw}, (∀ x ∈ S, x ∈ L.map Rw.pr) → ∃ m : List Rw, m.map Rw.pr = S ∧ ∀ r ∈ m, r ∈ L := by
  intro S
  induction S with
  | nil => intro _; exact ⟨[], rfl, fun r hr => by cases hr⟩
  | cons x S ih =>
    intro h
    obtain ⟨m, h1, h2⟩ := ih fun y hy => h y (List.mem_cons_of_mem _ hy)
    obtain ⟨r, hr, e⟩ := List.mem_map.1 (h x (List.mem_cons_self ..))
    exact ⟨r :: m, by rw [List.map_cons, h1, e], fun y hy => by
      rcases List.mem_cons.1 hy with rfl | hy
      · exact hr
      · exact h2 y hy⟩

theorem left_flat (s : WS) : (leftW s).flatMap (·.2) = s.rest.flatMap (·.2) ++ s.heap.flatMap fun x => x.2.all := by
  unfold leftW
  rw [List.flatMap_append]
  congr 1
  generalize s.heap = l
  induction l with
  | nil => rfl
  | cons x l ih =>
    rw [List.map_cons, List.filter_cons, List.flatMap_cons]
    cases e : x.2.all with
    | nil => simpa [e] using ih
    | cons y ys => simp only [List.isEmpty_cons, Bool.not_false, if_true, List.flatMap_cons, ih]

theorem left_mem {q : List Int} {b : Int} {P : List Prw} {s : WS} (h : WOk q b P s) : ∀ x ∈ leftW s, PtOk q.length x.1 ∧ x.2 ≠ [] ∧ (∀ y ∈ x.2, y ∈ x.1.all) := by
  intro x hx
  unfold leftW at hx
  rcases List.mem_append.1 hx with h1 | h1
  · exact h.left x h1
  · obtain ⟨h2, h3⟩ := List.mem_filter.1 h1
    obtain ⟨y, hy, rfl⟩ := List.mem_map.1 h2
    refine ⟨(h.near y hy).2, fun e => ?_, fun z hz => hz⟩
    simp only at e
    rw [e] at h3
    cases h3

theorem sub_sum {α β : Type} {f : α → List β} {x : α} : ∀ {l : List α}, x ∈ l → List.Sublist (f x) (l.flatMap f) := by
  intro l
  induction l with
  | nil => intro h; cases h
  | cons y l ih =>
    intro h
    rw [List.flatMap_cons]
    rcases List.mem_cons.1 h with rfl | h
    · exact List.sublist_append_left _ _
    · exact (ih h).trans (List.sublist_append_right _ _)

theorem walk_sound {q : List Int} {k b : Int} {ps : List Pt} {L : List Rw} {rs : List Rgn} (hb : 0 ≤ b) (hk : 1 ≤ k) (hps : ∀ p ∈ ps, PtOk q.length p) (hq : Qok L q) (hL : (L.map Rw.pr).Perm (Pt.allL ps)) (hr : rs.map Rgn.core = (leftW (walkE q k b ps)).map coreW) :
    Sound L q k (topW q k (walkE q k b ps)) (sortI ((walkE q k b ps).seen.map (·.1))) rs ∧ ((sortI ((walkE q k b ps).seen.map (·.1))).length : Int) ≤ b ∧
      (((sortI ((walkE q k b ps).seen.map (·.1))).length : Int) = b ∨ (sortI ((walkE q k b ps).seen.map (·.1))).length = L.length ∨ CertA q k (topW q k (walkE q k b ps)) rs) := by
  obtain ⟨hw, hend⟩ := walkE_ok (k := k) hb hps
  generalize walkE q k b ps = s at *
  have hpl := hw.perm
  rw [← left_flat] at hpl
  have hall := hpl.trans hL.symm
  have hidL : (L.map Rw.pr).map (·.1) = L.map (·.id) := by rw [List.map_map]; rfl
  have hids : (s.seen.map (·.1) ++ ((leftW s).flatMap (·.2)).map (·.1)).Perm (L.map (·.id)) := by
    rw [← hidL, ← List.map_append]
    exact hall.map _
  have hnd := hids.nodup_iff.2 hq.rows.nodup
  have hns := (List.nodup_append.1 hnd).1
  have hnl := (List.nodup_append.1 hnd).2.1
  have hcore : ∀ r ∈ rs, ∃ x ∈ leftW s, r.core = coreW x := fun r hrm => by
    have : r.core ∈ (leftW s).map coreW := by rw [← hr]; exact List.mem_map_of_mem hrm
    obtain ⟨x, hx, e⟩ := List.mem_map.1 this
    exact ⟨x, hx, e.symm⟩
  have hmemL : ∀ x ∈ leftW s, ∀ y ∈ x.2, y ∈ L.map Rw.pr := fun x hx y hy => hall.mem_iff.1 (List.mem_append_right _ (List.mem_flatMap.2 ⟨x, hx, hy⟩))
  have hregs : ∀ r ∈ rs, ∃ x ∈ leftW s, r.core = coreW x ∧ RegOk r q.length := fun r hrm => by
    obtain ⟨x, hx, e⟩ := hcore r hrm
    obtain ⟨h1, h2, h3⟩ := left_mem hw x hx
    refine ⟨x, hx, e, reg_core (p := x.1) (rows := x.2) e h1.reg ?_ fun y hy => ?_⟩
    · exact hnl.sublist ((sub_sum hx).map _)
    · obtain ⟨w, hw', ew⟩ := List.mem_map.1 (hmemL x hx y hy)
      rw [← ew]
      exact hq.rows.id w hw'
  have hflat : (rs.flatMap (·.ids)).Perm (((leftW s).flatMap (·.2)).map (·.1)) := by
    have e1 : rs.flatMap (·.ids) = (rs.map Rgn.core).flatMap fun z => z.2.2.2.2 := by rw [List.flatMap_map]; rfl
    rw [e1, hr, List.flatMap_map]
    generalize leftW s = l
    induction l with
    | nil => exact .refl _
    | cons x l ih =>
      rw [List.flatMap_cons, List.flatMap_cons, List.map_append]
      exact (sortI_perm _).append ih
  have hlen : (sortI (s.seen.map (·.1))).length = s.seen.length := by rw [sortI_len, List.length_map]
  obtain ⟨ms, hm1, hm2⟩ := pick_rows (L := L) (S := s.seen) fun x hx => hall.mem_iff.1 (List.mem_append_left _ hx)
  have htop : topW q k s = topk k.toNat (ms.map (hitOf q)) := by
    unfold topW
    rw [← hm1, List.map_map]
    rfl
  refine ⟨⟨sortI_rise hns, fun r hrm => ?_, ?_, fun m hm hms => ?_⟩, by rw [hlen]; exact hw.few, ?_⟩
  · obtain ⟨x, hx, e, hreg⟩ := hregs r hrm
    obtain ⟨h1, h2, h3⟩ := left_mem hw x hx
    obtain ⟨_, _, _, _, e5⟩ := core_rgn (p := x.1) (rows := x.2) e
    refine ⟨hreg, fun hn => ?_, fun y hy => ?_⟩
    · rw [e5] at hn
      have := congrArg List.length hn
      rw [sortI_len, List.length_map, List.length_nil] at this
      exact h2 (List.eq_nil_of_length_eq_zero this)
    · rw [e5] at hy
      obtain ⟨z, hz, rfl⟩ := List.mem_map.1 ((sortI_perm _).mem_iff.1 hy)
      obtain ⟨w, hw', ew⟩ := List.mem_map.1 (hmemL x hx z hz)
      refine ⟨w, hw', by rw [← ew]; rfl, inside_core (p := x.1) (rows := x.2) e ?_⟩
      have := h1.ins z (h3 z hz)
      rw [← ew] at this
      exact this
  · exact ((sortI_perm _).append hflat).trans hids
  · rw [htop]
    have hp : m.Perm ms := by
      refine rows_perm hq.rows.nodup hm hm2 ?_
      rw [hms]
      refine (sortI_perm _).trans (List.Perm.of_eq ?_)
      rw [← hm1, List.map_map]
      rfl
    exact topk_eq (hp.symm.map _)
  · rw [hlen]
    have hfew := hw.few
    by_cases hcut : s.rest = []
    · by_cases hb2 : b ≤ (s.seen.length : Int)
      · left; omega
      by_cases hh : s.heap = []
      · right; left
        have h1 := hids.length_eq
        rw [left_flat, hcut, hh] at h1
        simpa using h1
      · right; right
        have hfull : fullW q k s (s.heap.getD 0 default).1 := by
          by_cases hf : fullW q k s (s.heap.getD 0 default).1
          · exact hf
          · exact absurd ⟨hh, by omega, hf⟩ hend
        obtain ⟨f1, f2⟩ := hfull
        right
        refine ⟨?_, fun r hrm => ?_⟩
        · unfold topW
          rw [topk_len, List.length_map]
          omega
        · obtain ⟨x, hx, e, _⟩ := hregs r hrm
          rw [near_core (p := x.1) (rows := x.2) e]
          unfold leftW at hx
          rw [hcut, List.nil_append] at hx
          obtain ⟨y, hy, rfl⟩ := List.mem_map.1 (List.mem_filter.1 hx).1
          obtain ⟨i, hi, rfl⟩ := List.getElem_of_mem hy
          have hroot := hw.hp.root bltOk i hi
          rw [List.getD_eq_getElem?_getD, List.getElem?_eq_getElem hi] at hroot
          have hge : (s.heap.getD 0 default).1 ≤ s.heap[i].1 := by
            have : ¬ s.heap[i].1 < (s.heap.getD 0 default).1 := of_decide_eq_false hroot
            omega
          have := (hw.near _ hy).1
          rw [show (k - 1).toNat = k.toNat - 1 by omega]
          show _ < nearR (s.heap[i].2.rgn []) q
          omega
    · left
      exact hw.cut hcut

end Go.Proofs.YtncninpdlpemgaaGreat

/- VcWlk4 -/
namespace Go.Proofs.YtncninpdlpemgaaGreat

theorem bWalk1 : hasBody Tryz.prog 107 = true := by kernel_rfl
theorem bWalk2 : hasBody Tryz.prog 108 = true := by kernel_rfl

theorem len_size (P : List Pt) : P.length ≤ Pt.sizeL P := by
  induction P with
  | nil => exact Nat.le_refl _
  | cons p P ih => simp only [Pt.sizeL, List.length_cons]; have := Pt.size_eq p; omega

theorem ptr_at {u : H} {s : Sl} {ps : List Nat} (h : Seg u s 1 (ps.map fun n => .pointer (some ⟨n, 0, none⟩))) {i : Nat} (hi : i < ps.length) : ∃ a, s.a = some a ∧ u.cell? (a.add (i * 1)) = some (.pointer (some ⟨ps[i], 0, none⟩)) := by
  obtain ⟨a, ha, hc⟩ := Seg.elem (enc := fun n : Nat => [Value.pointer (some ⟨n, 0, none⟩)]) (k := 1) (fun _ => rfl) (by decide) (xs := ps) (by
    have e : ps.flatMap (fun n : Nat => [Value.pointer (some ⟨n, 0, none⟩)]) = ps.map fun n => Value.pointer (some ⟨n, 0, none⟩) := by
      generalize ps = z
      induction z with
      | nil => rfl
      | cons y z ih => rw [List.flatMap_cons, List.map_cons, ih]; rfl
    rw [e]
    exact h) (List.getElem?_eq_getElem hi)
  exact ⟨a, ha, hc 0 _ rfl⟩

theorem start_size (q : List Int) (P : List Pt) : Pt.sizeL ((startW q P).heap.map (·.2)) ≤ Pt.sizeL P := by
  have h0 : Hp blt ([] : List Op1).length [] := fun i _ hi => by simp at hi
  obtain ⟨h1, h2⟩ := foldl_add (q := q) P [] h0
  rw [List.nil_append] at h2
  show Pt.sizeL ((P.foldl (addW q) []).map (·.2)) ≤ _
  rw [sizeL_perm (h2.map _), List.map_map]
  exact Nat.le_of_eq (congrArg _ (List.map_id' _))

theorem loopW_stop {q : List Int} {k b : Int} {s : WS} (h : ¬ goW q k b s) : ∀ f, loopW q k b f s = s := by
  intro f
  cases f with
  | zero => rfl
  | succ f => unfold loopW; rw [if_neg h]

theorem loopW_go {q : List Int} {k b : Int} {s : WS} (h : goW q k b s) (f : Nat) : loopW q k b (f + 1) s = loopW q k b f (stepW q b s) := by
  conv => lhs; unfold loopW
  rw [if_pos h]

/-- Where the walk is: st, with f steps to go at most. -/
structure At (v w : H) (N n6 : Nat) (k b : Int) (q : List Int) (P : List Pt) (f : Nat) (sh ss sr : Sl) : Prop where
  hits : sh = ⟨none, 0, 0⟩
  ex : ∃ (st : WS) (S : List Hit) (R : List Rgn), WI v w N n6 k S st.heap (st.seen.map (·.1)) ss sr R ∧ S.Perm (st.seen.map (hitP q)) ∧ WOk q b (Pt.allL P) st ∧ R.map Rgn.core = st.rest.map coreW ∧ loopW q k b f st = walkE q k b P ∧ Pt.sizeL (st.heap.map (·.2)) ≤ f ∧ f ≤ Pt.sizeL P

/-- The walk's memory at its start. -/
theorem WI.start {v u : H} {N n6 : Nat} {k : Int} (hT : TopAt v N k u []) (hn : u n6 = none) : WI v (u.ins n6 (.cells #[.slice none 0 0] 157 (0, 0))) N n6 k [] [] [] ⟨none, 0, 0⟩ ⟨none, 0, 0⟩ [] := by
  have hv := hT.le
  have hvn : v n6 = none := le_none hv hn
  have hle := H.le_ins (u := u) (b := n6) (.cells #[.slice none 0 0] 157 (0, 0)) hn
  have hle2 := H.le_ins (u := v) (b := n6) (.cells #[.slice none 0 0] 157 (0, 0)) hvn
  refine ⟨⟨u, v.ins n6 (.cells #[.slice none 0 0] 157 (0, 0)), hle, fun c o hc => ?_, hv, hle2, fun c h1 h2 => ?_, hT, ⟨[], ⟨⟨⟨none, 0, 0⟩, H.ins_same _ _ _, OwnF.nil hle2 _ _, by simp [Sl.blk]⟩, hvn, by simp⟩, rfl, fun e he => (by cases he)⟩, fun s hs g hg => ?_⟩, OwnF.nil (hv.trans hle) _ _, RestAt.nil (hv.trans hle), fun s hs => ?_⟩
  · by_cases e : c = n6
    · subst e; rw [H.ins_same] at hc ⊢; exact hc
    · rw [H.ins_other _ _ e] at hc ⊢; exact hv c o hc
  · by_cases e : c = n6
    · subst e; exact absurd hn h1
    · rw [H.ins_other _ _ e] at h2; exact h2
  · simp at hs
    subst hs
    simp [Sl.blk] at hg
  · intro g hg
    simp [Sl.blk] at hg

theorem flat_ge {α : Type} {L : List (α × List Prw)} (h : ∀ x ∈ L, x.2 ≠ []) : L.length ≤ (L.flatMap (·.2)).length := by
  induction L with
  | nil => exact Nat.le_refl _
  | cons x L ih =>
    have h1 := ih fun y hy => h y (List.mem_cons_of_mem _ hy)
    have h2 : 0 < x.2.length := List.length_pos_iff.2 (h x (List.mem_cons_self ..))
    rw [List.flatMap_cons, List.length_append, List.length_cons]
    omega

theorem left_few {q : List Int} {b : Int} {Q : List Prw} {s : WS} (h : WOk q b Q s) : (leftW s).length ≤ Q.length := by
  have h1 := flat_ge fun x hx => (left_mem h x hx).2.1
  have h2 := h.perm.length_eq
  rw [← left_flat, List.length_append] at h2
  omega

/-- What is left of the first so many of a queue. -/
def leftN (s : WS) (x : Nat) : List (Pt × List Prw) := s.rest ++ ((s.heap.take x).map fun y => (y.2, y.2.all)).filter fun y => !y.2.isEmpty

theorem leftN_few {q : List Int} {b : Int} {Q : List Prw} {s : WS} (h : WOk q b Q s) (x : Nat) : (leftN s x).length ≤ Q.length := by
  refine Nat.le_trans (List.Sublist.length_le ?_) (left_few h)
  unfold leftN leftW
  exact (List.Sublist.refl _).append (((List.take_sublist x s.heap).map _).filter _)

theorem leftN_all (s : WS) {x : Nat} (h : s.heap.length ≤ x) : leftN s x = leftW s := by
  unfold leftN leftW
  rw [List.take_of_length_le h]

theorem leftN_succ {s : WS} {x : Nat} {e : Op1} (h : s.heap[x]? = some e) : leftN s (x + 1) = leftN s x ++ (if e.2.all = [] then [] else [(e.2, e.2.all)]) := by
  unfold leftN
  rw [List.take_add_one, h, Option.toList, List.map_append, List.filter_append, List.append_assoc]
  congr 2
  cases e2 : e.2.all <;> simp [e2]

theorem heap_all_le {q : List Int} {b : Int} {Q : List Prw} {s : WS} (h : WOk q b Q s) {e : Op1} (he : e ∈ s.heap) : e.2.all.length ≤ Q.length := by
  have h1 := (sub_sum (f := fun x : Op1 => x.2.all) he).length_le
  have h2 := h.perm.length_eq
  rw [List.length_append, List.length_append] at h2
  omega

theorem heap_size_le {l : List Op1} {e : Op1} (he : e ∈ l) : e.2.size ≤ Pt.sizeL (l.map (·.2)) := by
  induction l with
  | nil => cases he
  | cons x l ih =>
    simp only [List.map_cons, Pt.sizeL]
    rcases List.mem_cons.1 he with rfl | he
    · omega
    · have := ih he; omega

theorem regok_small {p : Pt} {d : Int} (h : RegOk (p.rgn []) d) : p.lo.length ≤ 64 ∧ p.hi.length ≤ 64 := by
  have hd := h.dim
  rcases h.shape with ⟨_, h1, h2, _⟩ | ⟨_, _, h1, h2, _⟩ | ⟨_, h1, h2, _⟩
  · have h1' : p.lo = [] := h1
    have h2' : p.hi = [] := h2
    rw [h1', h2']; simp
  · exact ⟨h1.1, h2.1⟩
  · have h1' : p.hi = [] := h1
    rw [h1']
    exact ⟨h2.1, by simp⟩

/-- The answer of a walk's memory. -/
theorem wi_ans {u v z u1 u2 : H} {N n6 : Nat} {k : Int} {S : List Hit} {l : List Op1} {ids ids' : List Int} {sh ss sr : Sl} {R : List Rgn} {H1 : List Hit} (luv : u.le v) (hW : WI v z N n6 k S l ids ss sr R)
    (h1 : OwnF v u1 3 1 ss (ids'.flatMap encI)) (he : Else z u1 ss) (h2 : OwnF u1 u2 66 3 sh (H1.flatMap encH)) : AnsO u u2 sh ss sr H1 ids' R := by
  have hR1 : RestAt v u1 sr R := hW.rest.stay h1.le fun s hs g o hg ho => he g o ho fun e => hW.far s hs g e hg
  have hR2 := hR1.mono h2.le
  have hss := h1.mono h2.le
  refine ⟨h2.weaken (luv.trans h1.le), hss.weaken luv, hR2.own.weaken luv, fun r hr => ⟨(hR2.each r hr).l.weaken luv, (hR2.each r hr).h.weaken luv, (hR2.each r hr).i.weaken luv⟩, ?_⟩
  have kn : ∀ s ∈ ss :: sr :: R.flatMap Rgn.sls, ∀ g, s.blk = some g → u1 g ≠ none := by
    intro s hs g hg
    rcases List.mem_cons.1 hs with rfl | hs
    · exact own_known h1 hg
    · rcases List.mem_cons.1 hs with rfl | hs
      · exact own_known hR1.own hg
      · obtain ⟨y, hy, hty⟩ := List.mem_flatMap.1 hs
        obtain ⟨xs, hx⟩ := own3_sls (hR1.each y hy) s hty
        exact own_known hx hg
  unfold ansS
  refine List.pairwise_cons.2 ⟨fun s hs g hg hg2 => kn s hs g hg2 (h2.fresh g hg), List.pairwise_cons.2 ⟨fun s hs => hW.far s hs, hR2.far⟩⟩

/-- A step of the loop. -/
theorem at_step {q : List Int} {k b : Int} {P : List Pt} {st : WS} {f : Nat} (hgo : goW q k b st) (hok : WOk q b (Pt.allL P) st) (hl : loopW q k b f st = walkE q k b P) (hs : Pt.sizeL (st.heap.map (·.2)) ≤ f) :
    ∃ f', f = f' + 1 ∧ loopW q k b f' (stepW q b st) = walkE q k b P ∧ Pt.sizeL ((stepW q b st).heap.map (·.2)) ≤ f' ∧ WOk q b (Pt.allL P) (stepW q b st) := by
  have h1 := step_size hok hgo
  cases f with
  | zero => omega
  | succ f => exact ⟨f, rfl, by rw [← loopW_go hgo]; exact hl, by omega, stepW_ok hok hgo⟩

end Go.Proofs.YtncninpdlpemgaaGreat

/- VcWlk5 -/
namespace Go.Proofs.YtncninpdlpemgaaGreat

theorem spec.flat_Walk {u : H} {s0 t : Sl} {ms : List Nat} {P : List Pt} {q : List Int} {k b : Int} {K : Sl → Sl → Sl → H → Prop} (hs : Seg u s0 1 (ms.map fun n => .pointer (some ⟨n, 0, none⟩))) (hlen : ms.length = P.length)
    (hp : ∀ (i : Nat) m p, ms[i]? = some m → P[i]? = some p → PartAt u m p) (hok : ∀ p ∈ P, PtOk q.length p) (ht : Ints u t q) (hq : vok q) (k1 : 1 ≤ k) (k2 : k ≤ 64) (b0 : 0 ≤ b) (b1 : b ≤ 1000000) (hsz : Pt.sizeL P ≤ 4000000) (hal : (Pt.allL P).length ≤ 100000)
    (hrows : ∀ x ∈ Pt.allL P, (x.2.length : Int) = q.length ∧ vok x.2)
    (hK : ∀ sh ss sr R u', AnsO u u' sh ss sr (topW q k (walkE q k b P)) (sortI ((walkE q k b P).seen.map (·.1))) R → R.map Rgn.core = (leftW (walkE q k b P)).map coreW → K sh ss sr u') : C.flat_Walk s0 t k b u K := by
  apply vc.flat_Walk
  intro n0 hn0
  refine spec.topk_New (fun hx => absurd hx (by omega)) fun _ _ N u3 l3 hN hT0 => ?_
  intro n4 hn4
  refine ⟨_, _, H.ins_same _ _ _, rfl, by simp, by simp [Value.oneCell'], ?_⟩
  intro n6 hn6
  rw [H.ins_ins] at hn6 ⊢
  obtain ⟨oB, hoB⟩ : ∃ oB, oB = (Obj.cells (wr #[Value.pointer none] 0 [Value.pointer (some ⟨N, 0, none⟩)]) 104 (0, 0)) := ⟨_, rfl⟩
  rw [← hoB] at hn6 ⊢
  obtain ⟨o0, ho0⟩ : ∃ o0, o0 = (Obj.cells #[Value.slice t.a t.n t.c] 41 (0, 0)) := ⟨_, rfl⟩
  rw [← ho0] at hT0 l3 hN
  have hT := hT0.rebase hn4 oB
  have hv1n4 : (u.ins n0 o0) n4 = none := le_none l3 hn4
  obtain ⟨v, hv⟩ : ∃ v, v = (u.ins n0 o0).ins n4 oB := ⟨_, rfl⟩
  rw [← hv] at hT
  have luv : u.le v := by rw [hv]; exact (H.le_ins _ hn0).trans (H.le_ins _ hv1n4)
  have c0v : v.cell? ⟨n0, 0, none⟩ = some (.slice t.a t.n t.c) := by
    have h1 : (u.ins n0 o0) n0 = some o0 := H.ins_same _ _ _
    have h2 : v n0 = some o0 := by rw [hv]; exact H.le_ins _ hv1n4 _ _ h1
    rw [ho0] at h2
    exact H.cell?_of h2 0
  have c4v : v.cell? ⟨n4, 0, none⟩ = some (.pointer (some ⟨N, 0, none⟩)) := by
    have h2 : v n4 = some oB := by rw [hv]; exact H.ins_same _ _ _
    rw [hoB] at h2
    exact H.cell?_of h2 0
  have W0 := WI.start hT hn6
  have htv := ht.mono luv
  have hpv : ∀ (i : Nat) m p, ms[i]? = some m → P[i]? = some p → PartAt v m p := fun i m p h1 h2 => (hp i m p h1 h2).mono luv
  have hsn : s0.n = ms.length := by have := hs.len; simpa using this.symm
  have hsm := Nat.le_trans (Seg.cap hs) (Seg.max hs)
  refine ⟨fun x w => 0 ≤ x ∧ x ≤ s0.n ∧ WI v w N n6 k [] ((P.take x.toNat).foldl (addW q) []) [] ⟨none, 0, 0⟩ ⟨none, 0, 0⟩ [], fun x _ => ((s0.n : Int) - x).toNat, ⟨by omega, by omega, W0⟩, fun x w hI => ⟨fun hx => ?_, fun hx => ?_⟩⟩
  · obtain ⟨x0, x1, W⟩ := hI
    have hxl : x.toNat < ms.length := by omega
    obtain ⟨a, ha, hc⟩ := ptr_at (hs.mono (luv.trans W.le)) hxl
    have hP : P[x.toNat]? = some P[x.toNat] := List.getElem?_eq_getElem (by omega)
    have hpk := hok _ (List.getElem_mem (show x.toNat < P.length by omega))
    have hlen2 : ((P.take x.toNat).foldl (addW q) []).length < 10000000 := by
      have h0' : Hp blt ([] : List Op1).length [] := fun i _ hi => by simp at hi
      have h1 := (foldl_add (q := q) (P.take x.toNat) [] h0').2.length_eq
      rw [List.nil_append, List.length_map, List.length_take] at h1
      have h2 := len_size P
      omega
    refine ⟨a, ha, ⟨x0, hx⟩, _, hc, .inl ⟨_, _, _, rfl, bodyOf bWalk1, spec.wi_add W hlen2 (hpv _ _ _ (List.getElem?_eq_getElem hxl) hP) hpk.reg hq c0v htv fun u' hW => ⟨⟨by omega, by omega⟩, ⟨by omega, by omega, ?_⟩, by dsimp only; omega⟩⟩⟩
    rw [show (x + 1).toNat = x.toNat + 1 by omega, List.take_add_one, hP, List.foldl_append]
    exact hW
  · obtain ⟨x0, x1, W⟩ := hI
    rw [List.take_of_length_le (by omega)] at W
    intro K14 h14
    refine ⟨fun s57 s58 s59 w => ∃ f, At v w N n6 k b q P f s57 s58 s59, fun s57 s58 s59 w => least fun f => At v w N n6 k b q P f s57 s58 s59, ⟨Pt.sizeL P, rfl, startW q P, [], [], W, .refl _, startW_ok b0 hok, rfl, rfl, start_size q P, Nat.le_refl _⟩, fun s57 s58 s59 w hI => ?_⟩
    have hf := least_is hI
    generalize hfe : (least fun f => At v w N n6 k b q P f s57 s58 s59) = f at hf
    obtain ⟨h57, st, S, R, hW, hS, hwok, hR, hloop, hsize, hfl⟩ := hf
    obtain rfl : s57 = ⟨none, 0, 0⟩ := h57
    intro K61 h61
    obtain ⟨sq, e1, e2, e3⟩ := hW.slice
    have hseen : s58.n = st.seen.length := by have h := hW.seen.ints.len; rw [List.length_map] at h; exact h
    have hheapl : st.heap.length ≤ 4000000 := by have h := len_size (st.heap.map (·.2)); rw [List.length_map] at h; omega
    have hmemP : ∀ x ∈ st.seen, x ∈ Pt.allL P := fun x hx => hwok.perm.mem_iff.1 (List.mem_append_left _ hx)
    have hdok : ∀ g ∈ S, Dok g.2 := fun g hg => by
      obtain ⟨x, hx, rfl⟩ := List.mem_map.1 (hS.mem_iff.1 hg)
      obtain ⟨g1, g2⟩ := hrows x (hmemP x hx)
      exact sqTo_ok g2 hq (by omega)
    have htop : topW q k st = topk k.toNat S := topk_eq hS.symm
    have hRl : R.length = st.rest.length := by have := congrArg List.length hR; simpa using this
    have fin : ¬ goW q k b st → K14 ⟨none, 0, 0⟩ s58 s59 w := fun hng => by
      have hst : walkE q k b P = st := by rw [← hloop, loopW_stop hng]
      obtain ⟨uT, uQ, t1, q1, t2, q2, hap, hTT, hQ, hfr⟩ := hW.ex
      obtain ⟨sq, e1, e2, e3⟩ := hQ.slice
      refine h14 ⟨none, 0, 0⟩ s58 s59 w ⟨sq, q1.cell e1, fun x s23 s24 s25 z => 0 ≤ x ∧ x ≤ sq.n ∧ s23 = ⟨none, 0, 0⟩ ∧ s24 = s58 ∧ uT.le z ∧ uQ.le z ∧ (∀ g, s25.blk = some g → uT g = none ∧ uQ g = none) ∧ ∃ R', WI v z N n6 k S st.heap (st.seen.map (·.1)) s58 s25 R' ∧ R'.map Rgn.core = (leftN st x.toNat).map coreW, fun x _ _ _ _ => ((sq.n : Int) - x).toNat,
        ⟨by omega, by omega, rfl, rfl, t1, q1, fun g hg => hfr s59 (by simp) g hg, R, hW, by rw [hR]; simp [leftN]⟩, ?_⟩
      rintro x s23 s24 s25 z ⟨x0, x1, h23, h24, tz, qz, hz, R', hW', hR'⟩
      obtain rfl : s23 = ⟨none, 0, 0⟩ := h23
      obtain rfl : s24 = s58 := h24
      have hRl' : R'.length = (leftN st x.toNat).length := by have := congrArg List.length hR'; simpa using this
      have hfew := leftN_few hwok x.toNat
      refine ⟨fun hx => ?_, fun hx => ?_⟩
      · obtain ⟨p, m, e, g1, g2, g3, g4, g5, g6⟩ := e3 x x0 hx
        have hem : e ∈ st.heap := List.mem_of_getElem? g2
        have hbnd := heap_all_le hwok hem
        obtain ⟨en1, en2⟩ := hwok.near e hem
        have hsucc := leftN_succ g2
        refine ⟨p, g1, ⟨x0, hx⟩, _, qz.cell g4, _, qz.cell g5, _, qz.cell g6, spec.flat_Part__All g3 hW'.le (by omega) fun s31 L u32 o31 hL hI => ⟨fun hpos => ?_, fun hno => ?_⟩⟩
        · have hn31 := flat_n encR_len (by decide) o31.own.seg
          have hLl : L.length = e.2.all.length := by rw [← hL, List.length_map]
          have hne : e.2.all ≠ [] := fun h0 => by rw [h0] at hLl; simp at hLl; rw [hLl] at hn31; simp at hn31; omega
          rw [if_neg hne] at hsucc
          cases g3 with
          | mk ls hs' is rs ks rows ps cell isn lo hi at' pr kids len each =>
          have vu : v.le u32 := hW'.le.trans o31.le
          have hc := vu _ _ cell
          obtain ⟨lo64, hi64⟩ := regok_small en2.reg
          have hrw : Rws u32 s31 L := ⟨o31.own.seg, fun r hr => (hI r hr).mono vu⟩
          have hids : sortI (L.map (·.id)) = sortI (e.2.all.map (·.1)) := by rw [← hL, List.map_map]; rfl
          refine ⟨_, rfl, _, H.cell?_of hc 0, ls, H.cell?_of hc 1, hs', H.cell?_of hc 2, _, H.cell?_of hc 3, _, H.cell?_of hc 4, is, H.cell?_of hc 5,
            spec.flat_region (lo.mono vu) (hi.mono vu) hrw lo64 hi64 (by omega) fun a b' c u46 oa ob oc f1 f2 f3 => ⟨oa.le, ?_⟩⟩
          have hW2 := hW'.mono o31.le
          have := wi_left (r := ⟨e.2.sh, a, b', e.2.rad, c, e.2.lo, e.2.hi, sortI (L.map (·.id))⟩) hW2 oa.le ⟨oa, ob, oc⟩ f1 f2 f3 (by omega)
            (K := fun (s49 : Sl) (u50 : H) => InR (x + 1) ∧ (0 ≤ x + 1 ∧ x + 1 ≤ (sq.n : Int) ∧ (⟨none, 0, 0⟩ : Sl) = ⟨none, 0, 0⟩ ∧ s24 = s24 ∧ uT.le u50 ∧ uQ.le u50 ∧ (∀ g, s49.blk = some g → uT g = none ∧ uQ g = none) ∧ ∃ R', WI v u50 N n6 k S st.heap (st.seen.map (·.1)) s24 s49 R' ∧ R'.map Rgn.core = (leftN st (x + 1).toNat).map coreW) ∧ ((sq.n : Int) - (x + 1)).toNat < ((sq.n : Int) - x).toNat)
            fun s49 u50 hW3 hel hbl => ⟨⟨by omega, by omega⟩, ⟨by omega, by omega, rfl, rfl, fun g o hg => hel g o (oa.le _ _ (o31.le _ _ (tz g o hg))) fun e0 => (by rw [(hz g e0).1] at hg; cases hg), fun g o hg => hel g o (oa.le _ _ (o31.le _ _ (qz g o hg))) fun e0 => (by rw [(hz g e0).2] at hg; cases hg), fun g hg => ?_, _, hW3, ?_⟩, by omega⟩
          · exact SemT.slice_mono this fun s1 v1 h => ⟨oa.le.trans h.1, h.2⟩
          · rcases hbl g hg with h1 | h1
            · exact hz g h1
            · have h2 := le_none (o31.le.trans oa.le) h1
              exact ⟨le_none tz h2, le_none qz h2⟩
          · rw [show (x + 1).toNat = x.toNat + 1 by omega, hsucc, List.map_append, List.map_append, hR']
            simp only [List.map_cons, List.map_nil, Rgn.core, coreW, hids]
        · have hn31 := flat_n encR_len (by decide) o31.own.seg
          have hLl : L.length = e.2.all.length := by rw [← hL, List.length_map]
          have hnil : e.2.all = [] := List.eq_nil_of_length_eq_zero (by omega)
          rw [if_pos hnil, List.append_nil] at hsucc
          exact ⟨⟨by omega, by omega⟩, ⟨by omega, by omega, rfl, rfl, tz.trans o31.le, qz.trans o31.le, hz, R', hW'.mono o31.le, by rw [show (x + 1).toNat = x.toNat + 1 by omega, hsucc]; exact hR'⟩, by dsimp only; omega⟩
      · have hsl := hwok.few
        rw [leftN_all st (by omega)] at hR'
        refine spec.slices_Sort___int_int_ hW'.seen (by rw [List.length_map]; omega) fun u51 ho51 he51 => ⟨_, ho51.le.cell c4v, ?_⟩
        have tT : uT.le u51 := fun g o hg => he51 g o (tz g o hg) fun e0 => by rw [(hfr s24 (by simp) g e0).1] at hg; cases hg
        refine spec.topk_Heap__List (hTT.whole tT) fun s53 u54 o53 => ?_
        have hans := wi_ans luv hW' ho51 he51 o53
        rw [← htop, ← hst] at hans
        rw [← hst] at hR'
        exact hK _ _ _ _ _ hans hR'
    have hSl : S.length = st.seen.length := by have := hS.length_eq; rwa [List.length_map] at this
    refine ⟨sq, e1, vc.flat_queue__Len _ _ _ ⟨fun hlen => ⟨fun hb => ?_, fun hb => fin fun hg => by have := hg.2.1; omega⟩, fun hlen => fin fun hg => ?_⟩⟩
    · obtain ⟨p, m, e, g1, g2, g3, g4, g5, g6⟩ := e3 0 (by omega) (by omega)
      have ehead : st.heap.getD 0 default = e := by rw [List.getD_eq_getElem?_getD]; rw [show (0 : Int).toNat = 0 from rfl] at g2; rw [g2]; rfl
      have hem : e ∈ st.heap := List.mem_of_getElem? g2
      obtain ⟨en1, en2⟩ := hwok.near e hem
      have hde : Dok e.1 := by rw [en1]; exact nearR_ok en2.reg hq
      refine ⟨sq, e1, p, g1, ⟨by omega, by omega⟩, _, g5, _, by rw [Addr.add_add']; exact g6, .inl ⟨_, _, _, rfl, bodyOf bWalk2, spec.wi_done hW k1 hdok c4v (hiU hde) (loU _) fun bb hbb => ?_⟩⟩
      rw [wv_hl, hSl] at hbb
      have hfull : bb = true ↔ fullW q k st (st.heap.getD 0 default).1 := by
        rw [hbb, ehead]
        unfold fullW
        rw [htop]
      refine ⟨fun hnd => h61 _ ?_, fun hd => fin fun hg => hg.2.2 (hfull.1 hd)⟩
      have hgo : goW q k b st := ⟨fun e0 => (by rw [e0] at hem; cases hem), by omega, fun hf => hnd (hfull.2 hf)⟩
      clear fin h14 hfull
      obtain ⟨f', hff, hloop', hsize', hwok'⟩ := at_step hgo hwok hloop hsize
      have hhl : 0 < st.heap.length := List.length_pos_iff.2 hgo.1
      have hrest0 : st.rest = [] := by
        by_cases e0 : st.rest = []
        · exact e0
        · have := hwok.cut e0; omega
      have hmeas : ∀ {sa sb sc : Sl} {z : H}, At v z N n6 k b q P f' sa sb sc → least (fun f => At v z N n6 k b q P f sa sb sc) < least fun f => At v w N n6 k b q P f ⟨none, 0, 0⟩ s58 s59 := fun {sa sb sc z} h => by
        rw [hfe]
        exact Nat.lt_of_le_of_lt (least_le h) (by omega)
      refine spec.wi_pop hW hwok.hp hhl fun u64 m1 hW1 hpart => sem_assertQ ?_
      rw [ehead] at hpart ⊢
      have hall := heap_all_le hwok hem
      rw [Pt.all_eq, List.length_append] at hall
      obtain ⟨p1, p2, p3, _⟩ := popF_ok bltOk hwok.hp hhl
      have hsz2 := heap_size_le hem
      have hsz3 := len_size (st.heap.map (·.2))
      rw [List.length_map] at hsz3
      rw [Pt.size_eq] at hsz2
      have hkl := len_size e.2.kids
      have hpl := p1.length_eq
      rw [List.length_cons] at hpl
      cases hpart with
      | mk ls hs' is rs ks rows ps cell isn lo hi at' pr kids len each =>
      have hkn : ks.n = ps.length := by have := kids.len; simpa using this.symm
      have hrl : e.2.rows.length = rows.length := by rw [← pr, List.length_map]
      have hrn := at'.len
      refine ⟨_, rfl, ks, H.cell?_of (hW1.le _ _ cell) 7, fun x z => 0 ≤ x ∧ x ≤ ks.n ∧ WI v z N n6 k S ((e.2.kids.take x.toNat).foldl (addW q) (popF blt st.heap)) (st.seen.map (·.1)) s58 s59 R, fun x _ => ((ks.n : Int) - x).toNat, ⟨by omega, by omega, by simpa using hW1⟩, ?_⟩
      rintro x z ⟨x0, x1, hWx⟩
      refine ⟨fun hx => ?_, fun hx => ?_⟩
      · have hxl : x.toNat < ps.length := by omega
        obtain ⟨a, ha, hc⟩ := ptr_at (kids.mono hWx.le) hxl
        have hP : e.2.kids[x.toNat]? = some e.2.kids[x.toNat] := List.getElem?_eq_getElem (by omega)
        have hpk := en2.kids _ (List.getElem_mem (show x.toNat < e.2.kids.length by omega))
        have hlen2 : ((e.2.kids.take x.toNat).foldl (addW q) (popF blt st.heap)).length < 10000000 := by
          have h1 := (foldl_add (q := q) (e.2.kids.take x.toNat) _ p2).2.length_eq
          rw [List.length_append, List.length_map, List.length_take] at h1
          omega
        refine ⟨a, ha, ⟨x0, hx⟩, _, hc, .inl ⟨_, _, _, rfl, bodyOf bWalk1, spec.wi_add hWx hlen2 (each _ _ _ (List.getElem?_eq_getElem hxl) hP) hpk.reg hq c0v htv fun u' hW => ⟨⟨by omega, by omega⟩, ⟨by omega, by omega, ?_⟩, by dsimp only; omega⟩⟩⟩
        rw [show (x + 1).toNat = x.toNat + 1 by omega, List.take_add_one, hP, List.foldl_append]
        exact hW
      · rw [List.take_of_length_le (by omega)] at hWx
        have hsteph : (stepW q b st).heap = e.2.kids.foldl (addW q) (popF blt st.heap) := by unfold stepW; rw [ehead]
        have hsteps : (stepW q b st).seen = st.seen ++ e.2.rows.take (b - st.seen.length).toNat := by unfold stepW; rw [ehead]
        have hstepr : (stepW q b st).rest = if (e.2.rows.length : Int) ≤ b - st.seen.length then st.rest else st.rest ++ [(e.2, e.2.rows.drop (b - st.seen.length).toNat)] := by unfold stepW; rw [ehead]
        rw [← hsteph] at hWx
        refine ⟨_, rfl, rs, H.cell?_of (hWx.le _ _ cell) 6, fun x s83 s84 s85 z => 0 ≤ x ∧ x ≤ rs.n ∧ s83 = ⟨none, 0, 0⟩ ∧ s85 = s59 ∧ st.seen.length + x ≤ b ∧ ∃ S', WI v z N n6 k S' (stepW q b st).heap ((st.seen ++ e.2.rows.take x.toNat).map (·.1)) s84 s59 R ∧ S'.Perm ((st.seen ++ e.2.rows.take x.toNat).map (hitP q)),
          fun x _ _ _ _ => ((rs.n : Int) - x).toNat, ⟨by omega, by omega, rfl, rfl, by have := hwok.few; omega, S, by simpa using hWx, by simpa using hS⟩, ?_⟩
        clear x0 x1 hx hWx x z
        rintro x s83 s84 s85 z ⟨x0, x1, h83, h85, xb, S', hWz, hS'⟩
        obtain rfl : s83 = ⟨none, 0, 0⟩ := h83
        obtain rfl : s85 = s59 := h85
        have hn84 : s84.n = st.seen.length + min x.toNat e.2.rows.length := by have h := hWz.seen.ints.len; rw [List.length_map, List.length_append, List.length_take] at h; exact h
        refine ⟨fun hx => ?_, fun hx => ?_⟩
        · obtain ⟨pp, hpp, r, hr, c0, c1, c2⟩ := (at'.mono hWz.le).at x0 hx
          have hrr : e.2.rows[x.toNat]? = some r.pr := by rw [← pr, List.getElem?_map, hr]; rfl
          have hrP : r.pr ∈ Pt.allL P := hwok.perm.mem_iff.1 (List.mem_append_right _ (List.mem_append_right _ (List.mem_flatMap.2 ⟨e, hem, by rw [Pt.all_eq]; exact List.mem_append_left _ (List.mem_of_getElem? hrr)⟩)))
          obtain ⟨rv1, rv2⟩ := hrows _ hrP
          have rv1' : (r.v.length : Int) = q.length := rv1
          have rv2' : vok r.v := rv2
          refine ⟨pp, hpp, ⟨x0, hx⟩, _, c0, _, c1, fun hb84 => ?_, fun hb84 => ?_⟩
          · have hc := hWz.le _ _ cell
            obtain ⟨lo64, hi64⟩ := regok_small en2.reg
            have hbx : (b - st.seen.length).toNat = x.toNat := by omega
            have hcut : ¬ (e.2.rows.length : Int) ≤ b - st.seen.length := by omega
            rw [if_neg hcut, hbx] at hstepr
            rw [hbx] at hsteps
            have hpt := (at'.mono hWz.le).part (l := x.toNat) (h := rs.n) (m := rs.c) (by omega) (Nat.le_refl _) at'.1.cap (Nat.le_refl _)
            have htk : (rows.drop x.toNat).take (rs.n - x.toNat) = rows.drop x.toNat := List.take_of_length_le (by rw [List.length_drop]; omega)
            rw [htk] at hpt
            have hids : sortI ((rows.drop x.toNat).map (·.id)) = sortI ((e.2.rows.drop x.toNat).map (·.1)) := by rw [← pr, ← List.map_drop, List.map_map]; rfl
            refine ⟨_, rfl, _, rfl, _, H.cell?_of hc 0, ls, H.cell?_of hc 1, hs', H.cell?_of hc 2, _, H.cell?_of hc 3, _, H.cell?_of hc 4, is, H.cell?_of hc 5, rs, H.cell?_of hc 6,
              sem_slice tRows (l := x.toNat) (h := rs.n) (m := rs.c) (.inr (by rw [Int.toNat_of_nonneg x0])) (.inl ⟨rfl, rfl⟩) (.inl ⟨rfl, rfl⟩) (by omega) at'.1.cap (Nat.le_refl _) at'.1.cap ⟨H.le.refl _,
              spec.flat_region (lo.mono hWz.le) (hi.mono hWz.le) hpt lo64 hi64 (by rw [List.length_drop]; omega) fun a b' c u46 oa ob oc f1 f2 f3 => ⟨oa.le, ?_⟩⟩⟩
            have := wi_left (r := ⟨e.2.sh, a, b', e.2.rad, c, e.2.lo, e.2.hi, sortI ((rows.drop x.toNat).map (·.id))⟩) hWz oa.le ⟨oa, ob, oc⟩ f1 f2 f3 (by rw [hRl, hrest0]; simp)
              (K := fun (s110 : Sl) (u111 : H) => (∃ f, At v u111 N n6 k b q P f ⟨none, 0, 0⟩ s84 s110) ∧ (least fun f => At v u111 N n6 k b q P f ⟨none, 0, 0⟩ s84 s110) < least fun f => At v w N n6 k b q P f ⟨none, 0, 0⟩ s58 s85)
              fun s110 u111 hW3 _ _ => ?_
            · exact SemT.slice_mono this fun s1 v1 h => ⟨oa.le.trans h.1, h.2⟩
            · have hAt : At v u111 N n6 k b q P f' ⟨none, 0, 0⟩ s84 s110 := ⟨rfl, stepW q b st, S', _, by rw [hsteps]; exact hW3, by rw [hsteps]; exact hS', hwok', by rw [hstepr, List.map_append, List.map_append, hR]; simp only [List.map_cons, List.map_nil, Rgn.core, coreW, hids], hloop', hsize', by omega⟩
              exact ⟨⟨f', hAt⟩, hmeas hAt⟩
          · refine ⟨t, hWz.le.cell c0v, spec.vec_Dist c2 (htv.mono hWz.le) rv2' (by have := en2.reg.dim; omega) hq (by omega) fun x113 x114 hx3 hx4 hw => ⟨_, hWz.le.cell c4v, ?_⟩⟩
            have e3' : x113 = hiW (hitP q r.pr).2 := by show x113 = hiW (sqTo r.v q r.v.length); rw [← hw, hi_wv hx4]
            have e4' : x114 = loW (hitP q r.pr).2 := by show x114 = loW (sqTo r.v q r.v.length); rw [← hw, lo_wv hx4]
            rw [e3', e4']
            refine spec.wi_Offer (x := hitP q r.pr) hWz k1 k2 fun bb u119 hWo => wi_see hWo (by rw [List.length_map, List.length_append, List.length_take]; omega) fun s' u123 hWs => ⟨⟨by omega, by omega⟩, ⟨by omega, by omega, rfl, rfl, by omega, hitP q r.pr :: S', ?_, ?_⟩, by dsimp only; omega⟩
            · have et : e.2.rows.take (x + 1).toNat = e.2.rows.take x.toNat ++ [r.pr] := by
                rw [show (x + 1).toNat = x.toNat + 1 by omega, List.take_add_one, hrr]; rfl
              rw [et, ← List.append_assoc, List.map_append]
              exact hWs
            · have et : e.2.rows.take (x + 1).toNat = e.2.rows.take x.toNat ++ [r.pr] := by
                rw [show (x + 1).toNat = x.toNat + 1 by omega, List.take_add_one, hrr]; rfl
              rw [et, ← List.append_assoc, List.map_append]
              exact (List.Perm.cons _ hS').trans (List.perm_append_singleton _ _).symm
        · have hfit : (e.2.rows.length : Int) ≤ b - st.seen.length := by omega
          rw [if_pos hfit] at hstepr
          rw [List.take_of_length_le (by omega)] at hWz hS'
          rw [List.take_of_length_le (by omega)] at hsteps
          have hAt : At v z N n6 k b q P f' ⟨none, 0, 0⟩ s84 s85 := ⟨rfl, stepW q b st, S', R, by rw [hsteps]; exact hWz, by rw [hsteps]; exact hS', hwok', by rw [hstepr]; exact hR, hloop', hsize', by omega⟩
          exact ⟨⟨f', hAt⟩, hmeas hAt⟩
    · have hne := hg.1
      have := List.length_pos_iff.2 hne
      omega

end Go.Proofs.YtncninpdlpemgaaGreat

/- VcKd3 -/
namespace Go.Proofs.YtncninpdlpemgaaGreat.Kd

theorem nodup_len {α : Type} : ∀ {a b : List α}, a.Nodup → (∀ x ∈ a, x ∈ b) → a.length ≤ b.length ∧ (b.length ≤ a.length → a.Perm b)
  | [], b, _, _ => ⟨Nat.zero_le _, fun h => by
    have : b = [] := List.eq_nil_of_length_eq_zero (by simpa using h)
    rw [this]⟩
  | x :: a, b, hn, hs => by
    obtain ⟨s, t, rfl⟩ := List.append_of_mem (hs x (List.mem_cons_self ..))
    rw [List.nodup_cons] at hn
    have hs' : ∀ y ∈ a, y ∈ s ++ t := fun y hy => by
      have := hs y (List.mem_cons_of_mem _ hy)
      rw [List.mem_append, List.mem_cons] at this
      rw [List.mem_append]
      rcases this with h | rfl | h
      · exact .inl h
      · exact absurd hy hn.1
      · exact .inr h
    obtain ⟨h1, h2⟩ := nodup_len hn.2 hs'
    rw [List.length_append] at h1 h2
    refine ⟨by simp; omega, fun hl => ?_⟩
    have := h2 (by simp at hl; omega)
    exact (List.Perm.cons x this).trans List.perm_middle.symm

theorem nodup_of_map {α β : Type} {f : α → β} : ∀ {l : List α}, (l.map f).Nodup → l.Nodup
  | [], _ => .nil
  | x :: l, h => by
    rw [List.map_cons, List.nodup_cons] at h
    rw [List.nodup_cons]
    exact ⟨fun hx => h.1 (List.mem_map_of_mem hx), nodup_of_map h.2⟩

theorem spec.Rows {u0 u : H} {fp : Nat → Option Tg} {b : Nat} {T : Tr} {K : Sl → H → Prop} (h : In u0 u fp b T) (hT : TOk T) (hK : ∀ s ls u', RowsO u u' s ls → (ls.map Rw.pr).Perm (ixRows T) → (ls.Pairwise fun a b => a.id ≤ b.id) → K s u') :
    C.kdtree_Tree__Rows (some ⟨b, 0, none⟩) u K := by
  have hsm := hT.small
  apply vc.kdtree_Tree__Rows
  refine ⟨fun e => (by cases e), fun _ => ⟨_, rfl, _, H.cell?_of h.tr.cell 3, sem_range mapTy h.tr.map fun r o hr hit0 => ?_⟩⟩
  have l0 := H.le_ins (u := u) (b := r) o hr
  refine ⟨fun s w => ∃ rw : List Rw, IterAt w r T.m (entL T.w) (rw.map fun x => (x.id, .slice x.s.a x.s.n x.s.c)) ∧ OwnF u w 43 2 s (rw.flatMap encR) ∧ s.blk ≠ some r ∧ ∀ x ∈ rw, (x.id, (x.s, x.v)) ∈ T.w, fun s _ => 1000000 - s.n,
    ⟨[], hit0, OwnF.nil l0 _ _, by simp [Sl.blk], fun x hx => (by cases hx)⟩, ?_⟩
  rintro s w ⟨rw, hit, ho, hsr, hrw⟩
  have hsn : s.n = rw.length := flat_n encR_len (by decide) ho.own.seg
  have hrl : rw.length ≤ 512 := by
    have h1 := hit.sub
    have h2 := hit.dn
    rw [List.map_map] at h2
    have h3 : (rw.map (·.id)).length ≤ (T.w.map (·.1)).length := (nodup_len h2 fun x hx => by
      obtain ⟨y, hy, rfl⟩ := List.mem_map.1 hx
      exact List.mem_map.2 ⟨_, hrw y hy, rfl⟩).1
    rw [List.length_map, List.length_map] at h3
    omega
  refine nextT_of hit (fun hperm => ?_) fun p o2 hp hnp hit2 => ?_
  · have hR : Rws w s rw := ⟨ho.own.seg, fun x hx => ((h.tr.vec _ (hrw x hx)).1).mono ho.le⟩
    have hpr : (rw.map Rw.pr).Perm (ixRows T) := by
      have hnd := hit.dn
      rw [List.map_map] at hnd
      have hlen := hperm.length_eq
      simp only [List.length_map, entL] at hlen
      have hnd2 : (T.w.map (·.1)).Nodup := by rw [← keys_ix]; exact h.tr.wnodup
      have hsub : ∀ x ∈ rw.map Rw.pr, x ∈ ixRows T := fun x hx => by
        obtain ⟨y, hy, rfl⟩ := List.mem_map.1 hx
        exact List.mem_map.2 ⟨_, hrw y hy, rfl⟩
      have hn3 : (rw.map Rw.pr).Nodup := by
        have : (rw.map (·.id)).Nodup := hnd
        rw [show rw.map (·.id) = (rw.map Rw.pr).map (·.1) by rw [List.map_map]; rfl] at this
        exact nodup_of_map this
      exact (nodup_len hn3 hsub).2 (by simp [ixRows]; omega)
    refine spec.flat_Own hR (fun x hx => hT.ids _ (hrw x hx)) (by omega) (fun x hx => ?_) fun s2 ls u2 hR2 hp2 hs2 => ?_
    · have h8 : (x.v.length : Int) = T.dim := (hT.vec _ (hrw x hx)).1
      have := hT.dm
      omega
    · exact hK s2 ls u2 ⟨hR2.own.weaken ho.le, fun r hr => (hR2.inner r hr).weaken ho.le, hR2.far, hR2.apart⟩ (hp2.trans hpr) hs2
  · obtain ⟨e, he, hpe⟩ := List.mem_map.1 hp
    subst hpe
    refine entT_of hit2 ?_
    have ho2 : OwnF u (w.ins r o2) 43 2 s (rw.flatMap encR) := ho.insOut hr hsr o2
    refine sem_push' tRows (build_row1 e.1 e.2.1) (by decide) rfl (by simp [Value.oneCell']) ho2 (by show s.n < _; omega) (by show (s.n + 1) * _ ≤ _; omega) fun s' u' ho' hn' he' hbl _ => ⟨⟨rw ++ [⟨e.1, e.2.1, e.2.2⟩], ?_, ?_, fun e2 => ?_, fun x hx => ?_⟩, ?_⟩
    · rw [List.map_append]
      refine hit2.else (fun o' ho3 => he' _ _ ho3 fun e3 => ?_) fun o' ho3 => he' _ _ ho3 hsr
      have := ho.fresh _ e3
      exact h.known T.m (by rw [h.tr.mtag]; simp) this
    · rw [List.flatMap_append]; exact ho'
    · rcases hbl r e2 with h4 | h4
      · exact hsr h4
      · rw [H.ins_same] at h4; cases h4
    · rcases List.mem_append.1 hx with hx | hx
      · exact hrw x hx
      · obtain rfl := List.mem_singleton.1 hx
        exact he
    · show 1000000 - s'.n < 1000000 - s.n
      omega

def parts (X : Tr) : List Pt := (X.root.map PN.pt).toList
noncomputable def walkK (X : Tr) (q : List Int) (k bud : Int) : WS := walkE q k bud (parts X)
noncomputable def ixH (X : Tr) (q : List Int) (k bud : Int) : List Hit := topW q k (walkK X q k bud)
noncomputable def ixS (X : Tr) (q : List Int) (k bud : Int) : List Int := sortI ((walkK X q k bud).seen.map (·.1))
noncomputable def ixR (X : Tr) (q : List Int) (k bud : Int) : List (Int × Int × List Int × List Int × List Int) := (leftW (walkK X q k bud)).map coreW

theorem parts_all (X : Tr) : Pt.allL (parts X) = rootAll X := by
  unfold parts rootAll
  cases X.root with
  | none => rfl
  | some n => show n.pt.all ++ [] = _; rw [List.append_nil]

theorem bWalk : hasBody Tryz.prog 47 = true := by kernel_rfl
theorem bNote : hasBody Tryz.prog 46 = true := by kernel_rfl
theorem tPartsK : elemT Tryz.prog 92 = some (83, 1, 8, [.pointer none]) := by kernel_rfl
theorem build_partK (n : Nat) : buildOf Tryz.prog 92 1 #[(0, .pointer (some ⟨n, 0, none⟩))] = some (83, [.pointer (some ⟨n, 0, none⟩)]) := by kernel_rfl

theorem spec.Search {u0 u : H} {fp : Nat → Option Tg} {b : Nat} {T : Tr} {t : Sl} {q : List Int} {k bud : Int} {K : Sl → Sl → Sl → Int → H → Prop} (h : In u0 u fp b T) (hT : TOk T) (hgas : T.gas ≤ 2700) (ht : Ints u t q)
    (hbad : askErr q T.dim k bud ≠ 0 → K ⟨none, 0, 0⟩ ⟨none, 0, 0⟩ ⟨none, 0, 0⟩ (askErr q T.dim k bud) u)
    (hok : askErr q T.dim k bud = 0 → ∀ sh ss sr rest u', AnsO u u' sh ss sr (ixH T q k bud) (ixS T q k bud) rest → rest.map Rgn.core = ixR T q k bud → K sh ss sr 0 u') : C.kdtree_Tree__Search (some ⟨b, 0, none⟩) t k bud u K := by
  apply vc.kdtree_Tree__Search
  refine ⟨fun e => (by cases e), fun _ => ⟨_, rfl, _, H.cell?_of h.tr.cell 0, spec.flat_Asked ht ⟨fun hne => hbad hne, fun he => ?_⟩⟩⟩
  obtain ⟨hv, k1, k2, b0, b1⟩ := askErr_ok.1 he
  obtain ⟨_, _, hql, hvq⟩ := vcheck_ok hv
  have hok := hok he
  intro n4 hn4
  obtain ⟨u4, hu4⟩ : ∃ u4, u4 = u.ins n4 (.cells #[.slice none 0 0] 92 (0, 0)) := ⟨_, rfl⟩
  have l4 : u.le u4 := by rw [hu4]; exact H.le_ins _ hn4
  have d4 : u4 n4 = some (.cells #[.slice none 0 0] 92 (0, 0)) := by rw [hu4]; exact H.ins_same _ _ _
  rw [← hu4]
  intro K5 h5
  have hal : (Pt.allL (parts T)).length ≤ 100000 := by
    rw [parts_all, hT.rows.length_eq]
    have := hT.small
    simp [ixRows]
    omega
  have hrows : ∀ x ∈ Pt.allL (parts T), (x.2.length : Int) = q.length ∧ vok x.2 := fun x hx => by
    rw [parts_all] at hx
    obtain ⟨e, he', rfl⟩ := List.mem_map.1 (hT.rows.mem_iff.1 hx)
    obtain ⟨v1, v2⟩ := hT.vec e he'
    exact ⟨by rw [v1, hql], v2⟩
  have hsz : Pt.sizeL (parts T) ≤ 4000000 := by
    unfold parts
    cases hr : T.root with
    | none => show 0 ≤ _; omega
    | some n =>
      have := hT.size n hr
      show n.pt.size + 0 ≤ _
      rw [PN.pt_size]
      omega
  have hpok : ∀ p ∈ parts T, PtOk q.length p := fun p hp => by
    unfold parts at hp
    cases hr : T.root with
    | none => rw [hr] at hp; cases hp
    | some n =>
      rw [hr] at hp
      obtain rfl : p = n.pt := by simpa using hp
      rw [hql]
      exact hT.ok n hr
  -- the walk
  have walk : ∀ (s : Sl) (ms : List Nat) (z : H), u.le z → z.cell? ⟨n4, 0, none⟩ = some (.slice s.a s.n s.c) → Seg z s 1 (ms.map fun n => .pointer (some ⟨n, 0, none⟩)) → ms.length = (parts T).length → (∀ (i : Nat) m p, ms[i]? = some m → (parts T)[i]? = some p → PartAt z m p) → K5 z := by
    intro s ms z hz hc hs hlen hp
    refine h5 z ⟨s, hc, .inl ⟨_, _, _, rfl, bodyOf bWalk, ?_⟩⟩
    refine vc.kdtree_Tree__walk (some ⟨b, 0, none⟩) s t k bud z _ ?_
    refine spec.flat_Walk hs hlen hp hpok (ht.mono hz) hvq k1 k2 b0 b1 hsz hal hrows fun sh ss sr R u' ha hcore => hok sh ss sr R u' ?_ hcore
    exact ⟨ha.h.weaken hz, ha.s.weaken hz, ha.r.weaken hz, fun r hr => ⟨(ha.g r hr).l.weaken hz, (ha.g r hr).h.weaken hz, (ha.g r hr).i.weaken hz⟩, ha.far⟩
  obtain ⟨p13, hp13⟩ : ∃ p13 : Option Addr, p13 = T.root.map fun n => ⟨n.b, 0, none⟩ := ⟨_, rfl⟩
  have cr : u4.cell? ((Addr.mk b 0 none).add 2) = some (.pointer p13) := by
    rw [hp13]
    exact H.le.cell l4 (H.cell?_of h.tr.cell 2)
  refine ⟨_, rfl, p13, cr, fun hne => ⟨_, rfl, p13, cr, .inl ⟨_, _, _, rfl, bodyOf bNote, ?_⟩⟩, fun he0 => ?_⟩
  · cases hr : T.root with
    | none => rw [hr] at hp13; exact absurd hp13 hne
    | some n =>
      rw [hr] at hp13
      rw [show p13 = some ⟨n.b, 0, none⟩ from hp13]
      refine vc.kdtree_Tree__Search_1 (some ⟨n.b, 0, none⟩) ⟨n4, 0, none⟩ u4 _ ⟨⟨none, 0, 0⟩, H.cell?_of d4 0, ?_⟩
      refine sem_push' tPartsK (build_partK n.b) (by decide) rfl (by simp [Value.oneCell']) (OwnF.nil (H.le.refl u4) 83 1) (by show 0 < _; omega) (by show (0 + 1) * _ ≤ _; omega) fun s' u' ho' hn' he' _ _ => ?_
      have d4' : u' n4 = some (.cells #[.slice none 0 0] 92 (0, 0)) := ho'.le _ _ d4
      refine st_one d4' (by simp [Value.oneCell']) ?_
      obtain ⟨z, hz⟩ : ∃ z, z = u'.ins n4 (.cells #[.slice s'.a s'.n s'.c] 92 (0, 0)) := ⟨_, rfl⟩
      rw [← hz]
      have hs4 : s'.blk ≠ some n4 := fun e => by have := ho'.fresh n4 e; rw [d4] at this; cases this
      have hfz : ∀ c o, u' c = some o → c ≠ n4 → z c = some o := fun c o hc hne => by rw [hz, H.ins_other _ _ hne]; exact hc
      have uz : u.le z := fun c o hc => hfz c o (ho'.le c o (l4 c o hc)) fun e => by rw [e, hn4] at hc; cases hc
      have dz : z n4 = some (.cells #[.slice s'.a s'.n s'.c] 92 (0, 0)) := by rw [hz]; exact H.ins_same _ _ _
      obtain ⟨q1, _⟩ := h.tr.one n hr
      refine walk s' [n.b] z uz (H.cell?_of dz 0) (Seg.else ho'.own.seg fun g o hg ho => hfz g o ho fun e => hs4 (by rw [hg, e])) (by unfold parts; rw [hr]; rfl) fun i m p hm hp => ?_
      have hi : i = 0 := by
        have := (List.getElem?_eq_some_iff.1 hm).1
        simpa using this
      subst hi
      obtain rfl : n.b = m := Option.some.inj hm
      have hp' : p = n.pt := by
        unfold parts at hp
        rw [hr] at hp
        exact (Option.some.inj hp).symm
      rw [hp']
      exact (PnAt.part q1).mono uz
  · cases hr : T.root with
    | some n => rw [hr] at hp13; rw [he0] at hp13; cases hp13
    | none => exact walk ⟨none, 0, 0⟩ [] u4 l4 (H.cell?_of d4 0) ⟨rfl, Nat.le_refl _, by decide, .inl rfl⟩ (by unfold parts; rw [hr]; rfl) fun i m p hm => by simp at hm

theorem tree_sound {X : Tr} (h : TOk X) {q : List Int} {k bud : Int} (hk : 1 ≤ k) (hb : 0 ≤ bud) (hd : (q.length : Int) = X.dim) {L : List Rw} (hL : (L.map Rw.pr).Perm (ixRows X)) (hq : Qok L q) {rest : List Rgn} (hr : rest.map Rgn.core = ixR X q k bud) :
    Sound L q k (ixH X q k bud) (ixS X q k bud) rest ∧ ((ixS X q k bud).length : Int) ≤ bud ∧ (((ixS X q k bud).length : Int) = bud ∨ (ixS X q k bud).length = L.length ∨ CertA q k (ixH X q k bud) rest) := by
  refine walk_sound hb hk (fun p hp => ?_) hq ?_ hr
  · unfold parts at hp
    cases hr' : X.root with
    | none => rw [hr'] at hp; cases hp
    | some n =>
      rw [hr'] at hp
      obtain rfl : p = n.pt := by simpa using hp
      rw [hd]
      exact h.ok n hr'
  · rw [parts_all]
    exact hL.trans h.rows.symm

end Go.Proofs.YtncninpdlpemgaaGreat.Kd

/- VcKd4 -/
namespace Go.Proofs.YtncninpdlpemgaaGreat.Kd

def ixErr (l : List Rw) (dim a : Int) : Int := if rcheck l dim ≠ 0 then rcheck l dim else if a < 1 ∨ 64 < a then 1 else 0

structure BuildRes (u : H) (l : List Rw) (dm a : Int) (u' : H) (bt : Nat) (fp : Nat → Option Tg) (T : Tr) : Prop where
  is : In u u' fp bt T
  ok : TOk T
  rows : (ixRows T).Perm (l.map Rw.pr)
  dim : T.dim = dm
  leaf : T.leaf = a
  gas : T.gas = 0

def entR (r : Rw) : Int × (Sl × List Int) := (r.id, (r.s, r.v))

theorem st_root {u : H} {n : Nat} {d a : Int} {p p' : Option Addr} {m : Option Nat} {f : H → Prop} (h : u n = some (.cells #[.int .i64 d, .int .i64 a, .pointer p, .map m] 86 (0, 0)))
    (hf : f (u.ins n (.cells #[.int .i64 d, .int .i64 a, .pointer p', .map m] 86 (0, 0)))) : H.St u (Addr.add (Addr.mk n 0 none) 2) [.pointer p'] f :=
  ⟨_, _, h, rfl, by simp [Addr.add_lit], by simp [Value.oneCell'], hf⟩

theorem spec.Build {s : Sl} {l : List Rw} {dim a : Int} {u : H} {K : Option Addr → Int → H → Prop} (hs : Rws u s l) (hbad : ixErr l dim a ≠ 0 → K none (ixErr l dim a) u)
    (hok : ixErr l dim a = 0 → ∀ u' bt fp T, BuildRes u l dim a u' bt fp T → K (some ⟨bt, 0, none⟩) 0 u') : C.kdtree_Build s dim a u K := by
  have bad : ∀ z, ixErr l dim a = z → z ≠ 0 → K none z u := fun z e hz => by subst e; exact hbad hz
  apply vc.kdtree_Build
  refine spec.flat_Check hs ⟨fun hne => bad _ (by unfold ixErr; rw [if_pos hne]) hne, fun he => ?_⟩
  have one : (a < 1 ∨ 64 < a) → K none 1 u := fun hc => bad 1 (by unfold ixErr; rw [if_neg (by simpa using he), if_pos hc]) (by decide)
  intro K2 h2
  refine ⟨fun h => one (.inl h), fun a1 => ⟨fun h => one (.inr h), fun a2 => h2 _ _ _ ?_⟩⟩
  have hok := hok (by unfold ixErr; rw [if_neg (by simpa using he), if_neg (by omega)])
  clear bad one hbad h2 K2
  have hrok := rcheck_ok.1 he
  obtain ⟨dm1, dm2⟩ := hrok.dim
  have hl512 := hrok.len
  refine sem_mkmap fun m om hm hmap => ?_
  have lm := H.le_ins (u := u) (b := m) om hm
  obtain ⟨u7, hu7⟩ : ∃ u7, u7 = u.ins m om := ⟨_, rfl⟩
  have hm7 : u7 m ≠ none := by rw [hu7, H.ins_same]; simp
  rw [← hu7] at hmap lm ⊢
  intro n8 hn8
  have hnm : n8 ≠ m := fun e => by rw [e] at hn8; exact hm7 hn8
  have hnu : u n8 = none := lm.none hn8
  obtain ⟨o8, ho8⟩ : ∃ o8, o8 = (Obj.cells #[.int .i64 dim, .int .i64 a, .pointer none, .map (some m)] 86 (0, 0)) := ⟨_, rfl⟩
  show C.flat_Own s (u7.ins n8 (Obj.cells #[.int .i64 dim, .int .i64 a, .pointer none, .map (some m)] 86 (0, 0))) _
  rw [← ho8]
  have l8 := H.le_ins (u := u7) (b := n8) o8 hn8
  obtain ⟨u8, hu8⟩ : ∃ u8, u8 = u7.ins n8 o8 := ⟨_, rfl⟩
  have h88 : u8 n8 = some o8 := by rw [hu8]; exact H.ins_same _ _ _
  rw [← hu8] at l8 ⊢
  have hm8 : u8 m ≠ none := fun e => hm7 (l8.none e)
  have lu8 : u.le u8 := lm.trans l8
  refine spec.flat_Own (hs.mono lu8) hrok.id (by omega) (fun r hr => by have := (hrok.v r hr).1; omega) fun s9 ls u10 hR hp hsrt => ?_
  have hRl : ls.length = l.length := by simpa using hp.length_eq
  have hlok : Rok ls dim := by
    refine rok_pr hrok.dim (by omega) ?_ fun p hp' => ?_
    · rw [show ls.map (·.id) = (ls.map Rw.pr).map (·.1) by rw [List.map_map]; rfl, (hp.map (·.1)).nodup_iff, List.map_map]
      exact hrok.nodup
    · obtain ⟨r, hr, rfl⟩ := List.mem_map.1 (hp.mem_iff.1 hp')
      exact ⟨(hrok.id r hr).1, (hrok.id r hr).2, (hrok.v r hr).1, (hrok.v r hr).2⟩
  have l10 := hR.own.le
  have h9n : s9.n = ls.length := hR.rws.len
  have hs9m : s9.blk ≠ some m := fun e => hm8 (hR.own.fresh m e)
  have hs98 : s9.blk ≠ some n8 := fun e => by have := hR.own.fresh n8 e; rw [h88] at this; cases this
  have hrm : ∀ r ∈ ls, r.s.blk ≠ some m := fun r hr e => hm8 ((hR.inner r hr).fresh m e)
  have hr8 : ∀ r ∈ ls, r.s.blk ≠ some n8 := fun r hr e => by have := (hR.inner r hr).fresh n8 e; rw [h88] at this; cases this
  -- the map
  refine ⟨fun x w => 0 ≤ x ∧ x ≤ s9.n ∧ MapAt w m (entL ((ls.take x.toNat).map entR)) ∧ (∀ c o, u10 c = some o → c ≠ m → w c = some o) ∧ w m ≠ none, fun x _ => ((s9.n : Int) - x).toNat, ⟨by omega, by omega, (hmap.mono l8).mono l10, fun c o hc _ => hc, fun e => hm8 (l10.none e)⟩, ?_⟩
  rintro x w ⟨x0, x1, hmw, hew, hkm⟩
  have h8w : w n8 = some o8 := hew _ _ (l10 _ _ h88) hnm
  have hRw : Rws w s9 ls := ⟨Seg.else hR.own.own.seg fun g o hg ho => hew g o ho fun e => hs9m (by rw [hg, e]), fun r hr => Seg.else (hR.inner r hr).ints fun g o hg ho => hew g o ho fun e => hrm r hr (by rw [hg, e])⟩
  refine ⟨fun hx => ?_, fun hx => ?_⟩
  · obtain ⟨p, hpp, r, hr, c0, c1, _⟩ := hRw.at x0 hx
    have hxl : x.toNat < ls.length := by omega
    refine ⟨p, hpp, ⟨x0, hx⟩, _, c0, _, c1, _, by rw [ho8] at h8w; exact H.cell?_of h8w 3, ?_⟩
    have hne : getL (entL ((ls.take x.toNat).map entR)) r.id = none := getL_none.2 fun hm' => by
      unfold entL at hm'
      rw [List.map_map, List.map_map] at hm'
      obtain ⟨z, hz, hzi⟩ := List.mem_map.1 hm'
      have hzid : z.id = r.id := hzi
      have hnd := hlok.nodup
      rw [← List.take_append_drop x.toNat ls, List.map_append, List.nodup_append] at hnd
      refine hnd.2.2 z.id (List.mem_map_of_mem hz) r.id (List.mem_map_of_mem ?_) hzid
      exact List.mem_of_getElem? (i := 0) (by rw [List.getElem?_drop, Nat.add_zero]; exact hr)
    refine sem_put mapTy hmw hne fun o hmo => ⟨⟨by omega, by omega⟩, ⟨by omega, by omega, ?_, fun c o' hc hne' => ?_, by rw [H.ins_same]; simp⟩, by dsimp only; omega⟩
    · rw [show (x + 1).toNat = x.toNat + 1 by omega, List.take_add_one, hr, List.map_append]
      unfold entL at hmo ⊢
      rw [List.map_append]
      exact hmo
    · rw [H.ins_other _ _ hne']; exact hew c o' hc hne'
  · rw [List.take_of_length_le (by omega)] at hmw
    -- cut
    obtain ⟨ub, hub⟩ : ∃ ub, ub = H.sans w s9 := ⟨_, rfl⟩
    have lub : ub.le w := by rw [hub]; exact sans_le _ _
    have how : OwnF ub w 43 2 s9 (ls.flatMap encR) := ⟨hR.own.own.le fun c o hc ho => hew c o ho fun e => hs9m (by rw [hc, e]), lub, fun g hg => by
      rw [hub]
      unfold H.sans
      exact if_pos hg⟩
    have ub8 : ub n8 = some o8 := by rw [hub, sans_at hs98]; exact h8w
    have hvb : ∀ r ∈ ls, Ints ub r.s r.v := fun r hr => Seg.else (hRw.2 r hr) fun g o hg ho => by
      rw [hub, sans_at ((hR.far r hr).symm g hg)]
      exact ho
    have hvk : ∀ r ∈ ls, ∀ g, r.s.blk = some g → ub g ≠ none ∧ g ≠ n8 ∧ g ≠ m := fun r hr g hg => by
      have e1 : g ≠ m := fun e => hrm r hr (by rw [hg, e])
      refine ⟨fun e => ?_, fun e => hr8 r hr (by rw [hg, e]), e1⟩
      obtain ⟨o, ho⟩ := Option.ne_none_iff_exists'.1 (own_known (hR.inner r hr) hg)
      rw [hub, sans_at ((hR.far r hr).symm g hg), hew g o ho e1] at e
      cases e
    have uw : ∀ c o, u c = some o → w c = some o ∧ s9.blk ≠ some c := fun c o hc => ⟨hew c o (l10 c o (lu8 c o hc)) (fun e => (by rw [e, hm] at hc; cases hc)), fun e => (by have := hR.own.fresh c e; rw [lu8 c o hc] at this; cases this)⟩
    have uub : u.le ub := fun c o hc => by
      obtain ⟨h1, h2⟩ := uw c o hc
      rw [hub, sans_at h2]; exact h1
    have ubm : ub m ≠ none := by rw [hub, sans_at hs9m]; exact hkm
    have fin : ∀ (root : Option PN) (u21 : H), (∀ c o, w c = some o → s9.blk ≠ some c → u21 c = some o) → (∀ n, root = some n → (∀ x ∈ n.heads, PhAt u21 x) ∧ n.own.Nodup ∧ (∀ c ∈ n.own, ub c = none ∧ u21 c ≠ none) ∧ (∀ x ∈ n.heads, ∀ r ∈ x.1.rows, r ∈ ls) ∧ PtOk dim n.pt ∧ PtSh 2 n.pt ∧ n.heads.length + 1 ≤ 2 * ls.length) →
        (match root with | none => ([] : List Prw) | some n => n.pt.all).Perm (ls.map Rw.pr) → H.St u21 (Addr.add (Addr.mk n8 0 none) 2) [.pointer (root.map fun n => ⟨n.b, 0, none⟩)] fun u22 => K (some ⟨n8, 0, none⟩) 0 u22 := by
      intro root u21 f1 f2 f3
      have h821 : u21 n8 = some o8 := f1 _ _ h8w hs98
      rw [ho8] at h821
      refine st_root h821 ?_
      obtain ⟨T, hT⟩ : ∃ T : Tr, T = ⟨dim, a, root, m, ls.map entR, 0⟩ := ⟨_, rfl⟩
      obtain ⟨u22, hu22⟩ : ∃ u22, u22 = u21.ins n8 (.cells #[.int .i64 dim, .int .i64 a, .pointer (root.map fun n => ⟨n.b, 0, none⟩), .map (some m)] 86 (0, 0)) := ⟨_, rfl⟩
      rw [← hu22]
      have g1 : ∀ c o, u21 c = some o → c ≠ n8 → u22 c = some o := fun c o hc hne => by rw [hu22, H.ins_other _ _ hne]; exact hc
      have own8 : ∀ n, root = some n → n8 ∉ n.own ∧ m ∉ n.own ∧ ∀ r ∈ ls, ∀ g, r.s.blk = some g → g ∉ n.own := fun n hn => by
        obtain ⟨_, _, q3, _⟩ := f2 n hn
        exact ⟨fun e => (by have := (q3 n8 e).1; rw [ub8] at this; cases this), fun e => ubm (q3 m e).1, fun r hr g hg e => (hvk r hr g hg).1 (q3 g e).1⟩
      obtain ⟨fp, hfp⟩ : ∃ fp : Nat → Option Tg, fp = fun c => open Classical in if c = n8 then some .tree else if c = m then some .map else if ∃ n, root = some n ∧ c ∈ n.own then some .node else if ∃ r ∈ ls, r.s.blk = some c then some .vec else none := ⟨_, rfl⟩
      have p1 : fp n8 = some .tree := by rw [hfp]; exact if_pos rfl
      have p2 : fp m = some .map := by
        rw [hfp]
        show (if m = n8 then _ else _) = _
        rw [if_neg (Ne.symm hnm), if_pos rfl]
      have p3 : ∀ n c, root = some n → c ∈ n.own → fp c = some .node := fun n c hn hc => by
        obtain ⟨e1, e2, _⟩ := own8 n hn
        rw [hfp]
        show (if c = n8 then _ else _) = _
        rw [if_neg (fun e => e1 (by rw [← e]; exact hc)), if_neg (fun e => e2 (by rw [← e]; exact hc)), if_pos ⟨n, hn, hc⟩]
      have p4 : ∀ r ∈ ls, ∀ g, r.s.blk = some g → fp g = some .vec := fun r hr g hg => by
        obtain ⟨_, e1, e2⟩ := hvk r hr g hg
        rw [hfp]
        show (if g = n8 then _ else _) = _
        rw [if_neg e1, if_neg e2, if_neg (fun ⟨n, hn, hc⟩ => (own8 n hn).2.2 r hr g hg hc), if_pos ⟨r, hr, hg⟩]
      have p5 : ∀ c, fp c ≠ none → c = n8 ∨ c = m ∨ (∃ n, root = some n ∧ c ∈ n.own) ∨ ∃ r ∈ ls, r.s.blk = some c := fun c hc => by
        rw [hfp] at hc
        by_cases e1 : c = n8
        · exact .inl e1
        · by_cases e2 : c = m
          · exact .inr (.inl e2)
          · by_cases e3 : ∃ n, root = some n ∧ c ∈ n.own
            · exact .inr (.inr (.inl e3))
            · by_cases e4 : ∃ r ∈ ls, r.s.blk = some c
              · exact .inr (.inr (.inr e4))
              · exact absurd (by
                  show (if c = n8 then _ else _) = _
                  rw [if_neg e1, if_neg e2, if_neg e3, if_neg e4]) hc
      have vec22 : ∀ r ∈ ls, Ints u22 r.s r.v := fun r hr => Seg.else (hRw.2 r hr) fun g o hg ho => g1 g o (f1 g o ho ((hR.far r hr).symm g hg)) (hvk r hr g hg).2.1
      have hix : ixRows T = ls.map Rw.pr := by
        rw [hT]
        unfold ixRows
        rw [List.map_map]
        rfl
      have h22 : u22 n8 = some (.cells (treeC T).toArray 86 (0, 0)) := by rw [hu22, H.ins_same, hT]; rfl
      have hm22 : MapAt u22 m (entL (ls.map entR)) := hmw.else fun o ho => g1 m o (f1 m o ho hs9m) (Ne.symm hnm)
      refine hok u22 n8 fp T ⟨⟨⟨h22, p1, by rw [hT]; exact hm22, by rw [hT]; exact p2, fun e hem => ?_, fun n hn => ?_⟩, fun c o hc => ?_, fun c hc => ?_, fun c hc => ?_⟩, ⟨by rw [hT]; exact ⟨dm1, dm2⟩, by rw [hT]; exact ⟨by show 1 ≤ a; omega, by show a ≤ 64; omega⟩, fun e hem => ?_, fun e hem => ?_, by rw [hT]; show (ls.map entR).length ≤ 512; rw [List.length_map]; omega, ?_, fun n hn => ?_, fun n hn => (by rw [hT] at hn; exact (f2 n hn).2.2.2.2.2.1), fun n hn => ?_⟩, by rw [hix]; exact hp, by rw [hT], by rw [hT], by rw [hT]⟩
      · rw [hT] at hem
        obtain ⟨r, hr, rfl⟩ := List.mem_map.1 hem
        exact ⟨vec22 r hr, p4 r hr⟩
      · rw [hT] at hn
        obtain ⟨q1, q2, q3, q4, _⟩ := f2 n hn
        obtain ⟨e1, _, _⟩ := own8 n hn
        refine ⟨fun x hx => (q1 x hx).keep (fun c o hc ho => g1 c o ho fun e => e1 (by rw [← e]; exact List.mem_flatMap.2 ⟨x, hx, hc⟩)) fun r hr => vec22 r (q4 x hx r hr), q2, fun c hc => p3 n c hn hc, fun x hx r hr g hg => p4 r (q4 x hx r hr) g hg⟩
      · obtain ⟨h1, h3⟩ := uw c o hc
        exact g1 c o (f1 c o h1 h3) fun e => by rw [e, hnu] at hc; cases hc
      · rcases p5 c hc with rfl | rfl | ⟨n, hn, hcn⟩ | ⟨r, hr, hrc⟩
        · exact hnu
        · exact hm
        · exact uub.none ((f2 n hn).2.2.1 c hcn).1
        · exact lu8.none ((hR.inner r hr).fresh c hrc)
      · rcases p5 c hc with rfl | rfl | ⟨n, hn, hcn⟩ | ⟨r, hr, hrc⟩
        · rw [h22]; simp
        · obtain ⟨_, _, h4, _⟩ := hm22
          rw [h4]; simp
        · obtain ⟨o, ho⟩ := Option.ne_none_iff_exists'.1 ((f2 n hn).2.2.1 c hcn).2
          rw [g1 c o ho fun e => (own8 n hn).1 (by rw [← e]; exact hcn)]; simp
        · obtain ⟨o, ho⟩ := Option.ne_none_iff_exists'.1 (own_known (hR.inner r hr) hrc)
          obtain ⟨_, e1, e2⟩ := hvk r hr c hrc
          rw [g1 c o (f1 c o (hew c o ho e2) ((hR.far r hr).symm c hrc)) e1]; simp
      · rw [hT] at hem
        obtain ⟨r, hr, rfl⟩ := List.mem_map.1 hem
        exact hlok.id r hr
      · rw [hT] at hem ⊢
        obtain ⟨r, hr, rfl⟩ := List.mem_map.1 hem
        exact hlok.v r hr
      · rw [hix, hT]
        exact f3
      · rw [hT] at hn ⊢
        exact (f2 n hn).2.2.2.2.1
      · rw [hT] at hn ⊢
        have := (f2 n hn).2.2.2.2.2.2
        show n.heads.length ≤ 1100 * 0 + 2000
        omega
    rw [ho8] at ub8
    refine spec.cut (by omega) (H.cell?_of ub8 0) (H.cell?_of ub8 1) how hvb hlok (fun e0 u' hu' => ?_) fun hne u' n hc hsh => ?_
    · exact fin none u' (fun c o hc _ => hu' c o hc) (fun n hn => by cases hn) (by rw [e0]; exact .refl _)
    · exact fin (some n) u' (fun c o hc' hne' => hc.else' c o hc' hne') (fun n' hn' => by
        obtain rfl := Option.some.inj hn'
        exact ⟨hc.one, hc.nodup, hc.out, hc.rows, hc.ok, hsh, hc.size⟩) hc.all

end Go.Proofs.YtncninpdlpemgaaGreat.Kd

/- VcPn2 -/
namespace Go.Proofs.YtncninpdlpemgaaGreat

theorem plug_all (fs : List Hol) (n : PN) : (plug fs n).pt.all.Perm (n.pt.all ++ (ctxH fs n.b).flatMap fun x => x.1.rows.map Rw.pr) := by
  rw [PN.pt_all, PN.pt_all, ← List.flatMap_append]
  exact (plug_heads fs n).flatMap_right _

theorem plug_own (fs : List Hol) (n : PN) : (plug fs n).own.Perm (n.own ++ (ctxH fs n.b).flatMap fun x => x.1.blks) := by
  unfold PN.own
  rw [← List.flatMap_append]
  exact (plug_heads fs n).flatMap_right _

/-- The region of a frame. -/
def Hol.rgn (f : Hol) : Rgn := (Pt.mk f.h.sh f.h.lo f.h.hi f.h.rad [] []).rgn []

theorem fill_rgn (f : Hol) (n : PN) : (f.fill n).pt.rgn [] = f.rgn := by rw [PN.pt_eq]; rfl
theorem fill_kids (f : Hol) (n : PN) : (f.fill n).pt.kids = (f.pre ++ n :: f.post).map PN.pt := by rw [PN.pt_eq]; rfl
theorem fill_all (f : Hol) (n : PN) (x : Prw) : x ∈ (f.fill n).pt.all ↔ x ∈ f.h.rows.map Rw.pr ∨ (∃ k ∈ f.pre ++ f.post, x ∈ k.pt.all) ∨ x ∈ n.pt.all := by
  rw [Pt.all_eq, fill_kids, List.mem_append, allL_flat, List.mem_flatMap]
  have er : (f.fill n).pt.rows = f.h.rows.map Rw.pr := by rw [PN.pt_eq]; rfl
  rw [er]
  constructor
  · rintro (h | ⟨p, hp, hx⟩)
    · exact .inl h
    · obtain ⟨k, hk, rfl⟩ := List.mem_map.1 hp
      rw [List.mem_append, List.mem_cons] at hk
      rcases hk with hk | rfl | hk
      · exact .inr (.inl ⟨k, List.mem_append_left _ hk, hx⟩)
      · exact .inr (.inr hx)
      · exact .inr (.inl ⟨k, List.mem_append_right _ hk, hx⟩)
  · rintro (h | ⟨k, hk, hx⟩ | hx)
    · exact .inl h
    · refine .inr ⟨k.pt, List.mem_map_of_mem ?_, hx⟩
      rw [List.mem_append, List.mem_cons]
      rcases List.mem_append.1 hk with hk | hk
      · exact .inl hk
      · exact .inr (.inr hk)
    · exact .inr ⟨n.pt, List.mem_map_of_mem (by simp), hx⟩

theorem fill_ok {d : Int} {f : Hol} {n n' : PN} (h : PtOk d (f.fill n).pt) (h' : PtOk d n'.pt) (hall : ∀ x ∈ n'.pt.all, x ∈ n.pt.all ∨ Inside f.rgn x.2) : PtOk d (f.fill n').pt := by
  have h1 := h.reg
  have h2 := h.ins
  have h3 := h.kids
  rw [fill_rgn] at h1 h2
  rw [fill_kids] at h3
  refine .mk (by rw [fill_rgn]; exact h1) (fun x hx => ?_) fun k hk => ?_
  · rw [fill_rgn]
    rcases (fill_all f n' x).1 hx with hx | hx | hx
    · exact h2 x ((fill_all f n x).2 (.inl hx))
    · exact h2 x ((fill_all f n x).2 (.inr (.inl hx)))
    · rcases hall x hx with hx | hx
      · exact h2 x ((fill_all f n x).2 (.inr (.inr hx)))
      · exact hx
  · rw [fill_kids] at hk
    obtain ⟨z, hz, rfl⟩ := List.mem_map.1 hk
    rw [List.mem_append, List.mem_cons] at hz
    rcases hz with hz | rfl | hz
    · exact h3 _ (List.mem_map_of_mem (List.mem_append_left _ hz))
    · exact h'
    · exact h3 _ (List.mem_map_of_mem (List.mem_append_right _ (List.mem_cons_of_mem _ hz)))

theorem plug_sub {d : Int} : ∀ (fs : List Hol) {n : PN}, PtOk d (plug fs n).pt → PtOk d n.pt
  | [], _, h => h
  | f :: fs, n, h => by
    have := plug_sub fs (n := f.fill n) h
    have h3 := this.kids
    rw [fill_kids] at h3
    exact h3 _ (List.mem_map_of_mem (by simp))

theorem plug_ok {d : Int} : ∀ (fs : List Hol) {n n' : PN}, PtOk d (plug fs n).pt → PtOk d n'.pt → (∀ x ∈ n'.pt.all, x ∈ n.pt.all ∨ ∀ f ∈ fs, Inside f.rgn x.2) → PtOk d (plug fs n').pt
  | [], _, _, _, h', _ => h'
  | f :: fs, n, n', h, h', hall => by
    refine plug_ok fs (n := f.fill n) (n' := f.fill n') h (fill_ok (plug_sub fs h) h' fun x hx => (hall x hx).imp id fun hx => hx f (List.mem_cons_self ..)) fun x hx => ?_
    rcases (fill_all f n' x).1 hx with hx | hx | hx
    · exact .inl ((fill_all f n x).2 (.inl hx))
    · exact .inl ((fill_all f n x).2 (.inr (.inl hx)))
    · rcases hall x hx with hx | hx
      · exact .inl ((fill_all f n x).2 (.inr (.inr hx)))
      · exact .inr fun g hg => hx g (List.mem_cons_of_mem _ hg)

end Go.Proofs.YtncninpdlpemgaaGreat

/- VcKd5 -/
namespace Go.Proofs.YtncninpdlpemgaaGreat.Kd

/-- A part's box with a vector more. -/
def growH (h : PH) (v : List Int) : PH := { h with lo := mnL h.lo v, hi := mxL h.hi v }

theorem mn_get {a v : List Int} {i : Nat} (h : a.length = v.length) (hi : i < a.length) : (mnL a v).getD i 0 = min (a.getD i 0) (v.getD i 0) := by
  unfold mnL
  rw [List.getD_eq_getElem?_getD, List.getElem?_zipWith, List.getD_eq_getElem?_getD, List.getD_eq_getElem?_getD, List.getElem?_eq_getElem hi, List.getElem?_eq_getElem (by omega)]
  show (if v[i] < a[i] then v[i] else a[i]) = min a[i] v[i]
  split <;> omega
theorem mx_get {a v : List Int} {i : Nat} (h : a.length = v.length) (hi : i < a.length) : (mxL a v).getD i 0 = max (a.getD i 0) (v.getD i 0) := by
  unfold mxL
  rw [List.getD_eq_getElem?_getD, List.getElem?_zipWith, List.getD_eq_getElem?_getD, List.getD_eq_getElem?_getD, List.getElem?_eq_getElem hi, List.getElem?_eq_getElem (by omega)]
  show (if v[i] > a[i] then v[i] else a[i]) = max a[i] v[i]
  split <;> omega

theorem mn_le {a v : List Int} (h : a.length = v.length) (i : Nat) : (mnL a v).getD i 0 ≤ a.getD i 0 := by
  by_cases hi : i < a.length
  · rw [mn_get h hi]; omega
  · have : (mnL a v).length = a.length := zip_len h
    rw [List.getD_eq_getElem?_getD, List.getD_eq_getElem?_getD, List.getElem?_eq_none (by omega), List.getElem?_eq_none (by omega)]
    exact Int.le_refl _
theorem mx_ge {a v : List Int} (h : a.length = v.length) (i : Nat) : a.getD i 0 ≤ (mxL a v).getD i 0 := by
  by_cases hi : i < a.length
  · rw [mx_get h hi]; omega
  · have : (mxL a v).length = a.length := zip_len h
    rw [List.getD_eq_getElem?_getD, List.getD_eq_getElem?_getD, List.getElem?_eq_none (by omega), List.getElem?_eq_none (by omega)]
    exact Int.le_refl _

/-- A grown part is a part that may be, and holds the vector. -/
theorem grow_ok {d : Int} {h : PH} {ks : List PN} {v : List Int} (hsh : h.sh = 2) (hp : PtOk d (PN.mk h ks).pt) (hv : vok v) (hvd : (v.length : Int) = d) : PtOk d (PN.mk (growH h v) ks).pt ∧ Inside ((PN.mk (growH h v) ks).pt.rgn []) v := by
  have h1 := hp.reg
  have h2 := hp.ins
  have h3 := hp.kids
  rw [PN.pt_eq] at h1 h2 h3
  obtain ⟨hd, _, _, hs⟩ := h1
  have hs' : h.rad = 0 ∧ vok h.lo ∧ vok h.hi ∧ (h.lo.length : Int) = d ∧ (h.hi.length : Int) = d ∧ ∀ i : Nat, (i : Int) < d → h.lo.getD i 0 ≤ h.hi.getD i 0 := by
    rcases hs with ⟨e, _⟩ | ⟨_, e⟩ | ⟨e, _⟩
    · have : h.sh = 1 := e
      omega
    · exact e
    · have : h.sh = 3 := e
      omega
  obtain ⟨r0, b3, b4, b1, b2, b5⟩ := hs'
  have l1 : (mnL h.lo v).length = h.lo.length := zip_len (by omega)
  have l2 : (mxL h.hi v).length = h.hi.length := zip_len (by omega)
  have o1 : vok (mnL h.lo v) := ⟨by omega, fun i hi => by
    rw [mn_get (by omega) (by omega)]
    have e1 := b3.2 i (by omega)
    have e2 := hv.2 i (by omega)
    unfold coordOk at *
    omega⟩
  have o2 : vok (mxL h.hi v) := ⟨by omega, fun i hi => by
    rw [mx_get (by omega) (by omega)]
    have e1 := b4.2 i (by omega)
    have e2 := hv.2 i (by omega)
    unfold coordOk at *
    omega⟩
  have insV : Inside ((PN.mk (growH h v) ks).pt.rgn []) v := by
    rw [PN.pt_eq]
    refine ⟨fun _ i hil => ?_, fun e => ?_⟩
    · show (mnL h.lo v).getD i 0 ≤ v.getD i 0 ∧ v.getD i 0 ≤ (mxL h.hi v).getD i 0
      have hil' : i < v.length := hil
      rw [mn_get (by omega) (by omega), mx_get (by omega) (by omega)]
      omega
    · have : h.sh = 3 := e
      omega
  refine ⟨?_, insV⟩
  rw [PN.pt_eq]
  refine .mk ⟨hd, List.Pairwise.nil, fun x hx => (by cases hx), .inr (.inl ⟨hsh, r0, o1, o2, by show ((mnL h.lo v).length : Int) = d; omega, by show ((mxL h.hi v).length : Int) = d; omega, fun i hi => ?_⟩)⟩ (fun x hx => ?_) h3
  · show (mnL h.lo v).getD i 0 ≤ (mxL h.hi v).getD i 0
    rw [mn_get (by omega) (by omega), mx_get (by omega) (by omega)]
    have := b5 i hi
    omega
  · have hx' : x ∈ (Pt.mk h.sh h.lo h.hi h.rad (h.rows.map Rw.pr) (ks.map PN.pt)).all := hx
    obtain ⟨g1, _⟩ := h2 x hx'
    refine ⟨fun _ i hil => ?_, fun e => ?_⟩
    · obtain ⟨z1, z2⟩ := g1 hsh i hil
      have y1 := mn_le (a := h.lo) (v := v) (by omega) i
      have y2 := mx_ge (a := h.hi) (v := v) (by omega) i
      exact ⟨Int.le_trans y1 z1, Int.le_trans z2 y2⟩
    · have : h.sh = 3 := e
      omega

/-- The part with the first coordinates grown. -/
def growT (h : PH) (v : List Int) (x : Nat) : PH := { h with lo := (mnL h.lo v).take x ++ h.lo.drop x, hi := (mxL h.hi v).take x ++ h.hi.drop x }

theorem spec.grow {ub u : H} {h : PH} {kb : List Nat} {s : Sl} {v : List Int} {Rest : H → Prop} (hv : Ints ub s v) (hub : ub.le u) (hph : PhAt u (h, kb)) (hnd : h.blks.Nodup) (hout : ∀ c ∈ h.blks, ub c = none) (hrv : ∀ r ∈ h.rows, Ints ub r.s r.v) (h1 : h.lo.length = v.length) (h2 : h.hi.length = v.length) (h64 : v.length ≤ 64)
    (hR : ∀ u', PhAt u' (growH h v, kb) → (∀ c o, u c = some o → c ∉ h.blks → u' c = some o) → (∀ c, u c ≠ none → u' c ≠ none) → Rest u') :
    ∃ I35 : (Int → (H → Prop)), ∃ I36 : (Int → (H → Nat)), (I35 0 u) ∧ (∀ x37 : Int, ∀ u38 : H, (I35 x37 u38) → ((x37 < (s.n : Int)) → ∃ r39 : Addr, (s.a = (some r39)) ∧ ((((0 : Int) ≤ x37) ∧ (x37 < (s.n : Int))) ∧ (∃ x40 : Int, ((H.cell? u38 (Addr.add r39 ((Int.toNat x37) * 1))) = (some (Value.int .i64 x40))) ∧ (∃ r41 : Addr, ((some (Addr.mk h.b 0 none)) = (some r41)) ∧ (∃ r42 : Addr, ((some (Addr.mk h.b 0 none)) = (some r42)) ∧ (∃ s43 : Sl, ((H.cell? u38 (Addr.add r41 1)) = (some (Value.slice s43.a s43.n s43.c))) ∧ (∃ s44 : Sl, ((H.cell? u38 (Addr.add r42 1)) = (some (Value.slice s44.a s44.n s44.c))) ∧ (∃ r45 : Addr, (s44.a = (some r45)) ∧ ((((0 : Int) ≤ x37) ∧ (x37 < (s44.n : Int))) ∧ (∃ x46 : Int, ((H.cell? u38 (Addr.add r45 ((Int.toNat x37) * 1))) = (some (Value.int .i64 x46))) ∧ (∃ r47 : Addr, (s43.a = (some r47)) ∧ ((((0 : Int) ≤ x37) ∧ (x37 < (s43.n : Int))) ∧ (H.St u38 (Addr.add r47 ((Int.toNat x37) * 1)) [(Value.int .i64 (ite (x40 < x46) x40 x46))] (fun (u48 : H) => ∃ r49 : Addr, ((some (Addr.mk h.b 0 none)) = (some r49)) ∧ (∃ r50 : Addr, ((some (Addr.mk h.b 0 none)) = (some r50)) ∧ (∃ s51 : Sl, ((H.cell? u48 (Addr.add r49 2)) = (some (Value.slice s51.a s51.n s51.c))) ∧ (∃ s52 : Sl, ((H.cell? u48 (Addr.add r50 2)) = (some (Value.slice s52.a s52.n s52.c))) ∧ (∃ r53 : Addr, (s52.a = (some r53)) ∧ ((((0 : Int) ≤ x37) ∧ (x37 < (s52.n : Int))) ∧ (∃ x54 : Int, ((H.cell? u48 (Addr.add r53 ((Int.toNat x37) * 1))) = (some (Value.int .i64 x54))) ∧ (∃ r55 : Addr, (s51.a = (some r55)) ∧ ((((0 : Int) ≤ x37) ∧ (x37 < (s51.n : Int))) ∧ (H.St u48 (Addr.add r55 ((Int.toNat x37) * 1)) [(Value.int .i64 (ite (x40 > x54) x40 x54))] (fun (u56 : H) => (InR (x37 + 1)) ∧ ((I35 (x37 + 1) u56) ∧ ((I36 (x37 + 1) u56) < (I36 x37 u38))))))))))))))))))))))))))) ∧ ((¬ (x37 < (s.n : Int))) → Rest u38)) := by
  have hsn := hv.len
  have hq : ∀ g, (h.sl.blk = some g → g ∈ h.blks ∧ g ≠ h.b ∧ h.sg.blk ≠ some g ∧ h.sr.blk ≠ some g ∧ h.sk.blk ≠ some g) ∧ (h.sg.blk = some g → g ∈ h.blks ∧ g ≠ h.b ∧ h.sl.blk ≠ some g ∧ h.sr.blk ≠ some g ∧ h.sk.blk ≠ some g) := by
    intro g
    unfold PH.blks at hnd ⊢
    rw [List.nodup_cons] at hnd
    obtain ⟨q1, q2⟩ := hnd
    rw [List.nodup_append, List.nodup_append, List.nodup_append] at q2
    obtain ⟨⟨⟨_, _, q3⟩, _, q4⟩, _, q5⟩ := q2
    refine ⟨fun hg => ⟨by simp [hg], fun e => q1 (by rw [← e]; simp [hg]), fun e => q3 g (by simp [hg]) g (by simp [e]) rfl, fun e => q4 g (by simp [hg]) g (by simp [e]) rfl, fun e => q5 g (by simp [hg]) g (by simp [e]) rfl⟩,
      fun hg => ⟨by simp [hg], fun e => q1 (by rw [← e]; simp [hg]), fun e => q3 g (by simp [e]) g (by simp [hg]) rfl, fun e => q4 g (by simp [hg]) g (by simp [e]) rfl, fun e => q5 g (by simp [hg]) g (by simp [e]) rfl⟩⟩
  have l1 : (mnL h.lo v).length = h.lo.length := zip_len h1
  have l2 : (mxL h.hi v).length = h.hi.length := zip_len h2
  refine ⟨fun x w => 0 ≤ x ∧ x ≤ v.length ∧ PhAt w (growT h v x.toNat, kb) ∧ (∀ c o, u c = some o → c ∉ h.blks → w c = some o) ∧ (∀ c, u c ≠ none → w c ≠ none), fun x _ => ((v.length : Int) - x).toNat, ⟨by omega, by omega, ?_, fun c o hc _ => hc, fun c hc => hc⟩, ?_⟩
  · have : growT h v (0 : Int).toNat = h := by unfold growT; simp
    rw [this]; exact hph
  rintro x w ⟨x0, x1, hw, hel, hkn⟩
  have hubw : ub.le w := fun c o hc => hel c o (hub c o hc) fun e => by rw [hout c e] at hc; cases hc
  refine ⟨fun hx => ?_, fun hx => ?_⟩
  · have hxl : x.toNat < v.length := by omega
    obtain ⟨p, hp, cx⟩ := (hv.mono hubw).at (x := x) x0 hx
    have hlo := hw.lo.f.ints
    have hhi := hw.hi.f.ints
    have hlol : (growT h v x.toNat).lo.length = v.length := by show ((mnL h.lo v).take x.toNat ++ h.lo.drop x.toNat).length = _; rw [List.length_append, List.length_take, List.length_drop]; omega
    have hhil : (growT h v x.toNat).hi.length = v.length := by show ((mxL h.hi v).take x.toNat ++ h.hi.drop x.toNat).length = _; rw [List.length_append, List.length_take, List.length_drop]; omega
    have gl : (growT h v x.toNat).lo.getD x.toNat 0 = h.lo.getD x.toNat 0 := zip_get h1 (by omega)
    have gh : (growT h v x.toNat).hi.getD x.toNat 0 = h.hi.getD x.toNat 0 := zip_get h2 (by omega)
    have nl : h.sl.n = v.length := by have h9 : h.sl.n = _ := hlo.len; rw [h9]; exact hlol
    have nh : h.sg.n = v.length := by have h9 : h.sg.n = _ := hhi.len; rw [h9]; exact hhil
    obtain ⟨p1, hp1, cl⟩ := hlo.at (x := x) x0 (by show x < (h.sl.n : Int); omega)
    obtain ⟨p2, hp2, ch⟩ := hhi.at (x := x) x0 (by show x < (h.sg.n : Int); omega)
    have hp1 : h.sl.a = some p1 := hp1
    have hp2 : h.sg.a = some p2 := hp2
    rw [gl] at cl
    rw [gh] at ch
    have hcell : w h.b = some (.cells (partC (growT h v x.toNat)).toArray 94 (0, 0)) := hw.cell
    have c1 : w.cell? ((Addr.mk h.b 0 none).add 1) = some (.slice h.sl.a h.sl.n h.sl.c) := H.cell?_of hcell 1
    refine ⟨p, hp, ⟨x0, hx⟩, _, cx, _, rfl, _, rfl, h.sl, c1, h.sl, c1, p1, hp1, ⟨x0, by omega⟩, _, cl, p1, hp1, ⟨x0, by omega⟩, ?_⟩
    refine OwnF.store (enc := encI) encI_len hw.lo.f (by decide) (i := x.toNat) (by rw [hlol]; exact hxl) (y := if v.getD x.toNat 0 < h.lo.getD x.toNat 0 then v.getD x.toNat 0 else h.lo.getD x.toNat 0) (by simp [encI, Value.oneCell']) hp1 fun u48 ho48 he48 _ => ?_
    have he48 : ∀ c o, w c = some o → h.sl.blk ≠ some c → u48 c = some o := he48
    have hc48 : u48 h.b = some (.cells (partC (growT h v x.toNat)).toArray 94 (0, 0)) := he48 _ _ hcell fun e => ((hq h.b).1 e).2.1 rfl
    have c2 : u48.cell? ((Addr.mk h.b 0 none).add 2) = some (.slice h.sg.a h.sg.n h.sg.c) := H.cell?_of hc48 2
    have hi48 : Own u48 3 1 h.sg ((growT h v x.toNat).hi.flatMap encI) := hw.hi.le fun c o hc ho => he48 c o ho fun e => ((hq c).1 e).2.2.1 hc
    have ch48 : u48.cell? (Addr.add p2 (x.toNat * 1)) = some (.int .i64 (h.hi.getD x.toNat 0)) := by
      obtain ⟨p3, hp3, c3⟩ := hi48.f.ints.at (x := x) x0 (by omega)
      rw [hp2] at hp3
      obtain rfl := Option.some.inj hp3
      rw [gh] at c3
      exact c3
    refine ⟨_, rfl, _, rfl, h.sg, c2, h.sg, c2, p2, hp2, ⟨x0, by omega⟩, _, ch48, p2, hp2, ⟨x0, by omega⟩, ?_⟩
    refine OwnF.store (enc := encI) encI_len hi48.f (by decide) (i := x.toNat) (by rw [hhil]; exact hxl) (y := if v.getD x.toNat 0 > h.hi.getD x.toNat 0 then v.getD x.toNat 0 else h.hi.getD x.toNat 0) (by simp [encI, Value.oneCell']) hp2 fun u56 ho56 he56 _ => ?_
    have he56 : ∀ c o, u48 c = some o → h.sg.blk ≠ some c → u56 c = some o := he56
    have e2 : ∀ c o, w c = some o → h.sl.blk ≠ some c → h.sg.blk ≠ some c → u56 c = some o := fun c o hc a b => he56 c o (he48 c o hc a) b
    have el : (growT h v x.toNat).lo.set x.toNat (if v.getD x.toNat 0 < h.lo.getD x.toNat 0 then v.getD x.toNat 0 else h.lo.getD x.toNat 0) = (growT h v (x + 1).toNat).lo := by
      rw [show (x + 1).toNat = x.toNat + 1 by omega]
      exact zip_step (f := fun a x => if x < a then x else a) h1 (by omega)
    have eh : (growT h v x.toNat).hi.set x.toNat (if v.getD x.toNat 0 > h.hi.getD x.toNat 0 then v.getD x.toNat 0 else h.hi.getD x.toNat 0) = (growT h v (x + 1).toNat).hi := by
      rw [show (x + 1).toNat = x.toNat + 1 by omega]
      exact zip_step (f := fun a x => if x > a then x else a) h2 (by omega)
    rw [el] at ho48
    rw [eh] at ho56
    have hub56 : ub.le u56 := fun c o hc => e2 c o (hubw c o hc) (fun e => by rw [hout c ((hq c).1 e).1] at hc; cases hc) (fun e => by rw [hout c ((hq c).2 e).1] at hc; cases hc)
    refine ⟨⟨by omega, by omega⟩, ⟨by omega, by omega, ⟨?_, ho48.own.le fun c o hc ho => he56 c o ho fun e => ((hq c).1 hc).2.2.1 e, ho56.own, hw.rws.le fun c o hc ho => e2 c o ho (fun e => ((hq c).1 e).2.2.2.1 hc) (fun e => ((hq c).2 e).2.2.2.1 hc), fun r hr => (hrv r hr).mono hub56, Seg.else hw.kid fun g o hg ho => e2 g o ho (fun e => ((hq g).1 e).2.2.2.2 hg) (fun e => ((hq g).2 e).2.2.2.2 hg)⟩, fun c o hc hm => e2 c o (hel c o hc hm) (fun e => hm ((hq c).1 e).1) (fun e => hm ((hq c).2 e).1), fun c hc => ?_⟩, by dsimp only; omega⟩
    · exact he56 _ _ hc48 fun e => ((hq h.b).2 e).2.1 rfl
    · obtain ⟨o, ho⟩ := Option.ne_none_iff_exists'.1 (hkn c hc)
      by_cases a : h.sg.blk = some c
      · exact own_known ho56 a
      · by_cases b : h.sl.blk = some c
        · obtain ⟨o', ho'⟩ := Option.ne_none_iff_exists'.1 (own_known ho48 b)
          rw [he56 c o' ho' a]; simp
        · rw [e2 c o ho b a]; simp
  · have : growT h v x.toNat = growH h v := by
      unfold growT growH
      rw [List.take_of_length_le (by omega), List.take_of_length_le (by omega), List.drop_of_length_le (by omega), List.drop_of_length_le (by omega), List.append_nil, List.append_nil]
    rw [this] at hw
    exact hR w hw hel hkn

end Go.Proofs.YtncninpdlpemgaaGreat.Kd

/- VcPn3 -/
namespace Go.Proofs.YtncninpdlpemgaaGreat

theorem PN.shp {s : Int} (n : PN) (h : ∀ x ∈ n.heads, x.1.sh = s) : PtSh s n.pt := by
  induction n using PN.ind with
  | h n ih =>
    rw [PN.pt_eq]
    refine .mk (h (n.h, n.kids.map PN.b) (by rw [PN.heads_eq]; exact List.mem_cons_self ..)) fun k hk => ?_
    obtain ⟨z, hz, rfl⟩ := List.mem_map.1 (show k ∈ n.kids.map PN.pt from hk)
    exact ih z hz fun x hx => h x (by rw [PN.heads_eq]; exact List.mem_cons_of_mem _ (List.mem_flatMap.2 ⟨z, hz, hx⟩))

theorem PN.shp' {s : Int} (n : PN) (h : PtSh s n.pt) : ∀ x ∈ n.heads, x.1.sh = s := by
  induction n using PN.ind with
  | h n ih =>
    rw [PN.pt_eq] at h
    intro x hx
    rw [PN.heads_eq] at hx
    rcases List.mem_cons.1 hx with rfl | hx
    · exact h.sh
    · obtain ⟨z, hz, hx⟩ := List.mem_flatMap.1 hx
      exact ih z hz (h.kids _ (List.mem_map_of_mem hz)) x hx

/-- On the way down. -/
structure Way (sh : Int) (ub u : H) (d : Int) (v : List Int) (W : Nat → Prop) (n0 : PN) (fs : List Hol) (n : PN) : Prop where
  base : ub.le u
  one : ∀ x ∈ n.heads ++ ctxH fs n.b, PhAt u x
  nodup : ((n.heads ++ ctxH fs n.b).flatMap fun x => x.1.blks).Nodup
  out : ∀ c ∈ (n.heads ++ ctxH fs n.b).flatMap (fun x => x.1.blks), ub c = none ∧ u c ≠ none
  vec : ∀ x ∈ n.heads ++ ctxH fs n.b, ∀ r ∈ x.1.rows, Ints ub r.s r.v ∧ ∀ g, r.s.blk = some g → W g
  ok : PtOk d (plug fs n).pt
  ins : ∀ f ∈ fs, Inside f.rgn v
  box : ∀ x ∈ n.heads ++ ctxH fs n.b, x.1.sh = sh
  all : (plug fs n).pt.all.Perm n0.pt.all
  len : (plug fs n).heads.length = n0.heads.length
  b : (plug fs n).b = n0.b

theorem Way.start {sh : Int} {ub u : H} {d : Int} {v : List Int} {W : Nat → Prop} {n : PN} (base : ub.le u) (one : ∀ x ∈ n.heads, PhAt u x) (nodup : n.own.Nodup) (out : ∀ c ∈ n.own, ub c = none ∧ u c ≠ none)
    (vec : ∀ x ∈ n.heads, ∀ r ∈ x.1.rows, Ints ub r.s r.v ∧ ∀ g, r.s.blk = some g → W g) (ok : PtOk d n.pt) (hsh : PtSh sh n.pt) : Way sh ub u d v W n [] n := by
  have e : n.heads ++ ctxH [] n.b = n.heads := by rw [ctxH, List.append_nil]
  exact ⟨base, by rw [e]; exact one, by rw [e]; exact nodup, by rw [e]; exact out, by rw [e]; exact vec, ok, fun f hf => (by cases hf), by rw [e]; exact n.shp' hsh, .refl _, rfl, rfl⟩

/-- Into a kid. -/
theorem Way.kid {sh : Int} {ub u : H} {d : Int} {v : List Int} {W : Nat → Prop} {n0 : PN} {fs : List Hol} {h : PH} {pre post : List PN} {k : PN} (w : Way sh ub u d v W n0 fs (.mk h (pre ++ k :: post))) (hi : Inside (Hol.rgn ⟨h, pre, post⟩) v) : Way sh ub u d v W n0 (⟨h, pre, post⟩ :: fs) k := by
  have hp : ((PN.mk h (pre ++ k :: post)).heads ++ ctxH fs h.b).Perm (k.heads ++ ctxH (⟨h, pre, post⟩ :: fs) k.b) := by
    rw [ctxH, ← List.append_assoc]
    exact (fill_heads ⟨h, pre, post⟩ k).append_right _
  exact ⟨w.base, fun x hx => w.one x (hp.mem_iff.2 hx), (hp.flatMap_right _).nodup_iff.1 w.nodup, fun c hc => w.out c ((hp.flatMap_right _).mem_iff.2 hc), fun x hx => w.vec x (hp.mem_iff.2 hx), w.ok, fun f hf => by
    rcases List.mem_cons.1 hf with rfl | hf
    · exact hi
    · exact w.ins f hf, fun x hx => w.box x (hp.mem_iff.2 hx), w.all, w.len, w.b⟩

theorem Way.head {sh : Int} {ub u : H} {d : Int} {v : List Int} {W : Nat → Prop} {n0 : PN} {fs : List Hol} {h : PH} {ks : List PN} (w : Way sh ub u d v W n0 fs (.mk h ks)) :
    PhAt u (h, ks.map PN.b) ∧ h.blks.Nodup ∧ (∀ c ∈ h.blks, ub c = none ∧ u c ≠ none) ∧ (∀ r ∈ h.rows, Ints ub r.s r.v ∧ ∀ g, r.s.blk = some g → W g) ∧ h.sh = sh := by
  have hm : (h, ks.map PN.b) ∈ (PN.mk h ks).heads ++ ctxH fs (PN.mk h ks).b := by rw [PN.heads]; exact List.mem_append_left _ (List.mem_cons_self ..)
  have hn := w.nodup
  rw [PN.heads, List.cons_append, List.flatMap_cons, List.nodup_append] at hn
  exact ⟨w.one _ hm, hn.1, fun c hc => w.out c (List.mem_flatMap.2 ⟨_, hm, hc⟩), w.vec _ hm, w.box _ hm⟩

/-- What stands at the place is another, and what lies elsewhere is as it was. -/
theorem Way.else {sh : Int} {ub u u' : H} {d : Int} {v : List Int} {W : Nat → Prop} {n0 : PN} {fs : List Hol} {n : PN} (w : Way sh ub u d v W n0 fs n) (hel : ∀ c o, u c = some o → c ∉ n.own → u' c = some o) :
    ub.le u' ∧ (∀ x ∈ ctxH fs n.b, PhAt u' x) ∧ (∀ c ∈ (ctxH fs n.b).flatMap (fun x => x.1.blks), ub c = none ∧ u' c ≠ none ∧ c ∉ n.own) ∧ ((ctxH fs n.b).flatMap fun x => x.1.blks).Nodup := by
  have hn := w.nodup
  rw [List.flatMap_append, List.nodup_append] at hn
  obtain ⟨_, h2, h3⟩ := hn
  have ho : ∀ c ∈ n.own, ub c = none := fun c hc => (w.out c (by rw [List.flatMap_append]; exact List.mem_append_left _ hc)).1
  have hb : ub.le u' := fun c o hc => hel c o (w.base c o hc) fun hm => by rw [ho c hm] at hc; cases hc
  have hf : ∀ c ∈ (ctxH fs n.b).flatMap (fun x => x.1.blks), c ∉ n.own := fun c hc hm => h3 c hm c hc rfl
  refine ⟨hb, fun x hx => (w.one x (List.mem_append_right _ hx)).keep (fun c o hc ho => hel c o ho (hf c (List.mem_flatMap.2 ⟨x, hx, hc⟩))) fun r hr => ((w.vec x (List.mem_append_right _ hx) r hr).1).mono hb, fun c hc => ?_, h2⟩
  obtain ⟨q2, q3⟩ := w.out c (by rw [List.flatMap_append]; exact List.mem_append_right _ hc)
  obtain ⟨o, ho'⟩ := Option.ne_none_iff_exists'.1 q3
  exact ⟨q2, by rw [hel c o ho' (hf c hc)]; simp, hf c hc⟩

/-- The part has another region. -/
theorem Way.turn {sh : Int} {ub u u' : H} {d : Int} {v : List Int} {W : Nat → Prop} {n0 : PN} {fs : List Hol} {h h' : PH} {ks : List PN} (w : Way sh ub u d v W n0 fs (.mk h ks)) (hb : h'.blks = h.blks) (hr : h'.rows = h.rows) (hs : h'.sh = h.sh)
    (hph : PhAt u' (h', ks.map PN.b)) (hel : ∀ c o, u c = some o → c ∉ h.blks → u' c = some o) (hkn : ∀ c, u c ≠ none → u' c ≠ none) (hok : PtOk d (PN.mk h' ks).pt) : Way sh ub u' d v W n0 fs (.mk h' ks) := by
  have hbb : h'.b = h.b := (List.cons.inj hb).1
  have hn := w.nodup
  rw [PN.heads, List.cons_append, List.flatMap_cons] at hn
  have hn2 := (List.nodup_append.1 hn).2.2
  have sub : ∀ x ∈ PN.headsL ks ++ ctxH fs h.b, x ∈ (PN.mk h ks).heads ++ ctxH fs (PN.mk h ks).b := fun x hx => by rw [PN.heads, List.cons_append]; exact List.mem_cons_of_mem _ hx
  have far : ∀ x ∈ PN.headsL ks ++ ctxH fs h.b, ∀ c ∈ x.1.blks, c ∉ h.blks := fun x hx c hc hm => hn2 c hm c (List.mem_flatMap.2 ⟨x, hx, hc⟩) rfl
  have ho : ∀ c ∈ h.blks, ub c = none := fun c hc => (w.head.2.2.1 c hc).1
  have hbase : ub.le u' := fun c o hc => hel c o (w.base c o hc) fun hm => by rw [ho c hm] at hc; cases hc
  have memC : ∀ x, x ∈ (PN.mk h' ks).heads ++ ctxH fs (PN.mk h' ks).b → x = (h', ks.map PN.b) ∨ x ∈ PN.headsL ks ++ ctxH fs h.b := fun x hx => by
    rw [PN.heads, List.cons_append, show (PN.mk h' ks).b = h.b from hbb] at hx
    exact List.mem_cons.1 hx
  have flE : ((PN.mk h' ks).heads ++ ctxH fs (PN.mk h' ks).b).flatMap (fun x => x.1.blks) = ((PN.mk h ks).heads ++ ctxH fs (PN.mk h ks).b).flatMap (fun x => x.1.blks) := by
    rw [PN.heads, PN.heads, List.cons_append, List.cons_append, List.flatMap_cons, List.flatMap_cons, show (PN.mk h' ks).b = h.b from hbb, show (PN.mk h ks).b = h.b from rfl]
    show h'.blks ++ _ = h.blks ++ _
    rw [hb]
  have hall : (PN.mk h' ks).pt.all = (PN.mk h ks).pt.all := by
    rw [PN.pt_all, PN.pt_all, PN.heads, PN.heads, List.flatMap_cons, List.flatMap_cons]
    show h'.rows.map Rw.pr ++ _ = h.rows.map Rw.pr ++ _
    rw [hr]
  refine ⟨hbase, fun x hx => ?_, by rw [flE]; exact w.nodup, fun c hc => ?_, fun x hx => ?_, plug_ok fs w.ok hok fun x hx => .inl (by rw [← hall]; exact hx), w.ins, fun x hx => ?_, ?_, ?_, ?_⟩
  · rcases memC x hx with rfl | hx
    · exact hph
    · exact (w.one x (sub x hx)).keep (fun c o hc ho' => hel c o ho' (far x hx c hc)) fun r hr' => ((w.vec x (sub x hx) r hr').1).mono hbase
  · rw [flE] at hc
    obtain ⟨q2, q3⟩ := w.out c hc
    exact ⟨q2, hkn c q3⟩
  · rcases memC x hx with rfl | hx
    · intro r hr'
      exact w.head.2.2.2.1 r (by rw [← hr]; exact hr')
    · exact w.vec x (sub x hx)
  · rcases memC x hx with rfl | hx
    · exact hs.trans w.head.2.2.2.2
    · exact w.box x (sub x hx)
  · refine (plug_all fs _).trans (.trans ?_ ((plug_all fs (.mk h ks)).symm.trans w.all))
    rw [hall, show (PN.mk h' ks).b = h.b from hbb, show (PN.mk h ks).b = h.b from rfl]
  · rw [(plug_heads fs _).length_eq, ← w.len, (plug_heads fs (.mk h ks)).length_eq, show (PN.mk h' ks).b = h.b from hbb, show (PN.mk h ks).b = h.b from rfl]
    simp [PN.heads]
  · rw [← w.b]
    exact plug_b fs hbb

/-- The tree when another part stands at the place, with the row in it. -/
structure Down (sh : Int) (ub u' : H) (d : Int) (e : Prw) (W : Rw → Prop) (n0 r : PN) (more : Nat) : Prop where
  one : ∀ x ∈ r.heads, PhAt u' x
  nodup : r.own.Nodup
  own : ∀ c ∈ r.own, ub c = none ∧ u' c ≠ none
  rws : ∀ x ∈ r.heads, ∀ y ∈ x.1.rows, W y
  all : r.pt.all.Perm (e :: n0.pt.all)
  ok : PtOk d r.pt
  shp : PtSh sh r.pt
  size : r.heads.length ≤ n0.heads.length + more
  b : r.b = n0.b
  le : ub.le u'

theorem Way.down {sh : Int} {ub u u' : H} {d : Int} {v : List Int} {W : Nat → Prop} {n0 : PN} {fs : List Hol} {n n' : PN} {id : Int} {more : Nat} {W' : Rw → Prop} (w : Way sh ub u d v W n0 fs n) (hb : n'.b = n.b) (hone : ∀ x ∈ n'.heads, PhAt u' x) (hnd : n'.own.Nodup)
    (hel : ∀ c o, u c = some o → c ∉ n.own → u' c = some o) (hnew : ∀ c ∈ n'.own, (c ∈ n.own ∨ u c = none) ∧ u' c ≠ none) (hW : ∀ x ∈ n'.heads, ∀ y ∈ x.1.rows, W' y) (hW2 : ∀ y : Rw, (∀ g, y.s.blk = some g → W g) → W' y)
    (hall : n'.pt.all.Perm ((id, v) :: n.pt.all)) (hok : PtOk d n'.pt) (hsh : PtSh sh n'.pt) (hm : n'.heads.length ≤ n.heads.length + more) : Down sh ub u' d (id, v) W' n0 (plug fs n') more := by
  obtain ⟨h1, h2, h3, h4⟩ := w.else hel
  have hp := plug_heads fs n'
  have hp0 := plug_heads fs n
  have hpo := plug_own fs n'
  rw [hb] at hp hpo
  have inN : ∀ c ∈ n.own, ub c = none := fun c hc => (w.out c (by rw [List.flatMap_append]; exact List.mem_append_left _ hc)).1
  have ctxk : ∀ c ∈ (ctxH fs n.b).flatMap (fun x => x.1.blks), u c ≠ none := fun c hc => (w.out c (by rw [List.flatMap_append]; exact List.mem_append_right _ hc)).2
  refine ⟨fun x hx => ?_, ?_, fun c hc => ?_, fun x hx => ?_, ?_, plug_ok fs w.ok hok fun x hx => ?_, PN.shp _ fun x hx => ?_, ?_, (plug_b fs hb).trans w.b, h1⟩
  · rcases List.mem_append.1 (hp.mem_iff.1 hx) with hx | hx
    · exact hone x hx
    · exact h2 x hx
  · rw [hpo.nodup_iff, List.nodup_append]
    refine ⟨hnd, h4, fun c hc c' hc' e => ?_⟩
    subst e
    rcases (hnew c hc).1 with h | h
    · exact (h3 c hc').2.2 h
    · exact ctxk c hc' h
  · rcases List.mem_append.1 (hpo.mem_iff.1 hc) with hc | hc
    · obtain ⟨q1, q2⟩ := hnew c hc
      exact ⟨q1.elim (inN c) fun h => w.base.none h, q2⟩
    · obtain ⟨q1, q3, _⟩ := h3 c hc
      exact ⟨q1, q3⟩
  · rcases List.mem_append.1 (hp.mem_iff.1 hx) with hx | hx
    · exact hW x hx
    · exact fun y hy => hW2 y (w.vec x (List.mem_append_right _ hx) y hy).2
  · have e1 := plug_all fs n'
    have e2 := (plug_all fs n).symm.trans w.all
    rw [hb] at e1
    exact e1.trans ((hall.append_right _).trans (List.Perm.cons _ e2))
  · rcases List.mem_cons.1 (hall.mem_iff.1 hx) with rfl | hx
    · exact .inr w.ins
    · exact .inl hx
  · rcases List.mem_append.1 (hp.mem_iff.1 hx) with hx | hx
    · exact n'.shp' hsh x hx
    · exact w.box x (List.mem_append_right _ hx)
  · rw [← w.len, hp.length_eq, hp0.length_eq, List.length_append, List.length_append]
    omega

end Go.Proofs.YtncninpdlpemgaaGreat

/- VcKd6 -/
namespace Go.Proofs.YtncninpdlpemgaaGreat.Kd

structure PutRes (u0 u : H) (fp : Nat → Option Tg) (b : Nat) (T : Tr) (id : Int) (v : List Int) (u' : H) (fp' : Nat → Option Tg) (T' : Tr) : Prop where
  is : In u0 u' fp' b T'
  turn : TurnG u fp u' fp'
  ok : TOk T'
  rows : (ixRows T').Perm ((id, v) :: (ixRows T).filter fun x => x.1 != id)
  dim : T'.dim = T.dim
  leaf : T'.leaf = T.leaf
  gas : T'.gas ≤ T.gas + 1

/-- The tree with a row more, in memory. -/
structure PutFin (u1 : H) (fp : Nat → Option Tg) (b : Nat) (T : Tr) (id : Int) (s : Sl) (v : List Int) (u' : H) (r : PN) : Prop where
  cell : u' b = some (.cells (treeC { T with root := some r }).toArray 86 (0, 0))
  map : MapAt u' T.m (entL (T.w ++ [(id, (s, v))]))
  sv : Ints u' s v
  sk : ∀ g, s.blk = some g → u1 g = none ∧ u' g ≠ none
  keep : ∀ c o, u1 c = some o → fp c = none ∨ fp c = some .vec → u' c = some o
  kn : ∀ c, u1 c ≠ none → fp c ≠ some .node → u' c ≠ none
  one : ∀ x ∈ r.heads, PhAt u' x
  nodup : r.own.Nodup
  own : ∀ c ∈ r.own, (fp c = some .node ∨ (u1 c = none ∧ s.blk ≠ some c)) ∧ u' c ≠ none
  rws : ∀ x ∈ r.heads, ∀ y ∈ x.1.rows, ∀ g, y.s.blk = some g → fp g = some .vec ∨ s.blk = some g
  all : r.pt.all.Perm ((id, v) :: rootAll T)
  ok : PtOk T.dim r.pt
  shp : PtSh 2 r.pt
  size : r.heads.length ≤ 1100 * (T.gas + 1) + 2000

theorem PutFin.res {u0 u1 u' : H} {fp : Nat → Option Tg} {b : Nat} {T : Tr} {id : Int} {s : Sl} {v : List Int} {r : PN} (f : PutFin u1 fp b T id s v u' r) (h : In u0 u1 fp b T) (hT : TOk T) (hid : 1 ≤ id ∧ id ≤ 1000000000) (hv : (v.length : Int) = T.dim ∧ vok v) (hl : T.w.length < 512) :
    ∃ fp' T', In u0 u' fp' b T' ∧ TurnG u1 fp u' fp' ∧ TOk T' ∧ (ixRows T').Perm ((id, v) :: ixRows T) ∧ T'.dim = T.dim ∧ T'.leaf = T.leaf ∧ T'.gas ≤ T.gas + 1 := by
  obtain ⟨T', hT'⟩ : ∃ T' : Tr, T' = { T with root := some r, w := T.w ++ [(id, (s, v))], gas := T.gas + 1 } := ⟨_, rfl⟩
  obtain ⟨fp', hfp⟩ : ∃ fp' : Nat → Option Tg, fp' = fun c => open Classical in if c ∈ r.own then some .node else if s.blk = some c then some .vec else if fp c = some .node then none else fp c := ⟨_, rfl⟩
  have q1 : ∀ c ∈ r.own, fp' c = some .node := fun c hc => by rw [hfp]; exact if_pos hc
  have q2 : ∀ c, s.blk = some c → fp' c = some .vec := fun c hc => by
    have hno : c ∉ r.own := fun hm => by
      rcases (f.own c hm).1 with e | e
      · exact h.known c (by rw [e]; simp) (f.sk c hc).1
      · exact e.2 hc
    rw [hfp]
    show (if c ∈ r.own then _ else _) = _
    rw [if_neg hno, if_pos hc]
  have q3 : ∀ c t, fp c = some t → t ≠ .node → fp' c = some t := fun c t hc ht => by
    have hk := h.known c (by rw [hc]; simp)
    have hno : c ∉ r.own := fun hm => by
      rcases (f.own c hm).1 with e | e
      · rw [hc] at e; exact ht (Option.some.inj e)
      · exact hk e.1
    have hns : s.blk ≠ some c := fun e => hk (f.sk c e).1
    rw [hfp]
    show (if c ∈ r.own then _ else _) = _
    rw [if_neg hno, if_neg hns, if_neg (by rw [hc]; exact fun e => ht (Option.some.inj e)), hc]
  have q4 : ∀ c, fp' c ≠ none → c ∈ r.own ∨ s.blk = some c ∨ (fp c ≠ none ∧ fp c ≠ some .node) := fun c hc => by
    by_cases e1 : c ∈ r.own
    · exact .inl e1
    · by_cases e2 : s.blk = some c
      · exact .inr (.inl e2)
      · by_cases e3 : fp c = some .node
        · exact absurd (by
            rw [hfp]
            show (if c ∈ r.own then _ else _) = _
            rw [if_neg e1, if_neg e2, if_pos e3]) hc
        · refine .inr (.inr ⟨fun e => hc ?_, e3⟩)
          rw [hfp]
          show (if c ∈ r.own then _ else _) = _
          rw [if_neg e1, if_neg e2, if_neg e3, e]
  have tr := h.tr
  refine ⟨fp', T', ⟨⟨by rw [hT']; exact f.cell, q3 _ _ tr.btag (by simp), by rw [hT']; exact f.map, by rw [hT']; exact q3 _ _ tr.mtag (by simp), fun e he => ?_, fun n hn => ?_⟩, fun c o hc => ?_, fun c hc => ?_, fun c hc => ?_⟩, ⟨fun c o hc hf => f.keep c o hc (.inl hf), fun c hc => ?_⟩,
    ⟨by rw [hT']; exact hT.dm, by rw [hT']; exact hT.lf, fun e he => ?_, fun e he => ?_, ?_, ?_, fun n hn => ?_, fun n hn => ?_, fun n hn => ?_⟩, ?_, by rw [hT'], by rw [hT'], by rw [hT']; exact Nat.le_refl _⟩
  · rw [hT'] at he
    rcases List.mem_append.1 he with he | he
    · obtain ⟨v1, v2⟩ := tr.vec e he
      exact ⟨Seg.else v1 fun g o hg ho => f.keep g o ho (.inr (v2 g hg)), fun g hg => q3 g _ (v2 g hg) (by simp)⟩
    · rw [List.mem_singleton.1 he]
      exact ⟨f.sv, q2⟩
  · rw [hT'] at hn
    obtain rfl := Option.some.inj hn
    exact ⟨f.one, f.nodup, q1, fun x hx y hy g hg => (f.rws x hx y hy g hg).elim (fun e => q3 g _ e (by simp)) fun e => q2 g e⟩
  · refine f.keep c o (h.le c o hc) (.inl ?_)
    cases e : fp c with
    | none => rfl
    | some t => have := h.out c (by rw [e]; simp); rw [hc] at this; cases this
  · rcases q4 c hc with e | e | e
    · rcases (f.own c e).1 with e | e
      · exact h.out c (by rw [e]; simp)
      · exact h.le.none e.1
    · exact h.le.none (f.sk c e).1
    · exact h.out c e.1
  · rcases q4 c hc with e | e | e
    · exact (f.own c e).2
    · exact (f.sk c e).2
    · exact f.kn c (h.known c e.1) e.2
  · rcases q4 c hc with e | e | e
    · rcases (f.own c e).1 with e | e
      · exact .inl (by rw [e]; simp)
      · exact .inr e.1
    · exact .inr (f.sk c e).1
    · exact .inl e.1
  · rw [hT'] at he
    rcases List.mem_append.1 he with he | he
    · exact hT.ids e he
    · rw [List.mem_singleton.1 he]; exact hid
  · rw [hT'] at he ⊢
    rcases List.mem_append.1 he with he | he
    · exact hT.vec e he
    · rw [List.mem_singleton.1 he]; exact hv
  · rw [hT']
    show (T.w ++ [(id, (s, v))]).length ≤ 512
    rw [List.length_append]
    simp only [List.length_cons, List.length_nil]
    omega
  · rw [hT']
    show r.pt.all.Perm ((T.w ++ [(id, (s, v))]).map fun e => (e.1, e.2.2))
    rw [List.map_append]
    exact f.all.trans ((List.Perm.cons _ hT.rows).trans (List.perm_append_singleton _ _).symm)
  · rw [hT'] at hn ⊢
    obtain rfl := Option.some.inj hn
    exact f.ok
  · rw [hT'] at hn
    obtain rfl := Option.some.inj hn
    exact f.shp
  · rw [hT'] at hn ⊢
    obtain rfl := Option.some.inj hn
    exact f.size
  · rw [hT']
    show ((T.w ++ [(id, (s, v))]).map fun e => (e.1, e.2.2)).Perm _
    rw [List.map_append]
    exact List.perm_append_singleton _ _

end Go.Proofs.YtncninpdlpemgaaGreat.Kd

/- VcKd7 -/
namespace Go.Proofs.YtncninpdlpemgaaGreat.Kd

theorem blks_perm (h : PH) : h.blks.Perm (h.sr.blk.toList ++ (h.b :: (h.sl.blk.toList ++ h.sg.blk.toList ++ h.sk.blk.toList))) := by
  unfold PH.blks
  refine List.Perm.trans (List.Perm.cons _ ?_) List.perm_middle.symm
  generalize h.sl.blk.toList ++ h.sg.blk.toList = a
  generalize h.sr.blk.toList = r
  generalize h.sk.blk.toList = k
  rw [List.append_assoc]
  exact List.perm_append_comm_assoc a r k

theorem blks_sr {h : PH} (hn : h.blks.Nodup) {s : Sl} (rows : List Rw) (hs : ∀ g, s.blk = some g → h.sr.blk = some g ∨ g ∉ h.blks) : ({ h with sr := s, rows := rows } : PH).blks.Nodup := by
  have h1 := (blks_perm h).nodup_iff.1 hn
  rw [(blks_perm _).nodup_iff]
  rw [List.nodup_append] at h1 ⊢
  obtain ⟨_, h3, h4⟩ := h1
  refine ⟨?_, h3, fun c hc c' hc' e => ?_⟩
  · show s.blk.toList.Nodup
    cases s.blk <;> simp
  · subst e
    have hc : s.blk = some c := by simpa using hc
    rcases hs c hc with h5 | h5
    · exact h4 c (by rw [h5]; simp) c hc' rfl
    · exact h5 ((blks_perm h).mem_iff.2 (List.mem_append_right _ hc'))

theorem leaf_ok {d : Int} {h : PH} (hp : PtOk d (PN.mk h []).pt) {id : Int} {sv s : Sl} {v : List Int} (hin : Inside ((PN.mk h []).pt.rgn []) v) : PtOk d (PN.mk { h with sr := s, rows := h.rows ++ [⟨id, sv, v⟩] } []).pt ∧ (PN.mk { h with sr := s, rows := h.rows ++ [⟨id, sv, v⟩] } []).pt.all.Perm ((id, v) :: (PN.mk h []).pt.all) := by
  have e1 : (PN.mk { h with sr := s, rows := h.rows ++ [⟨id, sv, v⟩] } []).pt.all = (PN.mk h []).pt.all ++ [(id, v)] := by
    rw [PN.pt_all, PN.pt_all, PN.heads, PN.heads, PN.headsL]
    simp [Rw.pr]
  have h1 := hp.reg
  have h2 := hp.ins
  refine ⟨.mk h1 (fun x hx => ?_) fun k hk => (by rw [PN.pt_eq] at hk; cases hk), by rw [e1]; exact List.perm_append_singleton _ _⟩
  rw [e1] at hx
  rcases List.mem_append.1 hx with hx | hx
  · exact h2 x hx
  · rw [List.mem_singleton.1 hx]
    exact hin

theorem st_part {u : H} {h1 h2 : PH} {p : Nat} (hc : u p = some (.cells (partC h1).toArray 94 (0, 0))) {f : H → Prop} (hf : f (u.ins p (.cells (partC h2).toArray 94 (0, 0)))) :
    H.St u (Addr.mk p 0 none) [.int .i64 h2.sh, .slice h2.sl.a h2.sl.n h2.sl.c, .slice h2.sg.a h2.sg.n h2.sg.c, .int .u64 (hiW h2.rad), .int .u64 (loW h2.rad), .slice none 0 0, .slice h2.sr.a h2.sr.n h2.sr.c, .slice h2.sk.a h2.sk.n h2.sk.c] f :=
  ⟨_, _, hc, rfl, by simp [partC], by simp [Value.oneCell'], by
    have e : wr (partC h1).toArray 0 [.int .i64 h2.sh, .slice h2.sl.a h2.sl.n h2.sl.c, .slice h2.sg.a h2.sg.n h2.sg.c, .int .u64 (hiW h2.rad), .int .u64 (loW h2.rad), .slice none 0 0, .slice h2.sr.a h2.sr.n h2.sr.c, .slice h2.sk.a h2.sk.n h2.sk.c] = (partC h2).toArray := by simp [wr, partC]
    show f (u.ins p (.cells (wr (partC h1).toArray 0 _) _ (0, 0)))
    rw [e]
    exact hf⟩

theorem spec.leaf {ub u : H} {d leaf : Int} {v : List Int} {W : Nat → Prop} {n0 : PN} {fs : List Hol} {h : PH} {b : Nat} {id : Int} {sv : Sl} {Fin : H → Prop} (w : Way 2 ub u d v W n0 fs (.mk h [])) (hlf : 1 ≤ leaf) (td : ub.cell? ⟨b, 0, none⟩ = some (.int .i64 d)) (tl : ub.cell? ((Addr.mk b 0 none).add 1) = some (.int .i64 leaf))
    (hsv : Ints ub sv v) (hrok : Rok (h.rows ++ [⟨id, sv, v⟩]) d) (hin : Inside ((PN.mk h []).pt.rgn []) v) (hfin : ∀ u' r, Down 2 ub u' d (id, v) (fun y => ∀ g, y.s.blk = some g → W g ∨ sv.blk = some g) n0 r 1100 → Fin u') :
    ∃ r59 : Addr, ((some (Addr.mk h.b 0 none)) = (some r59)) ∧ (∃ s60 : Sl, ((H.cell? u (Addr.add r59 6)) = (some (Value.slice s60.a s60.n s60.c))) ∧ (SemT Tryz.prog (Instr.buildSlice 22 1 #[(0, (Value.agg #[(Value.int IntKind.i64 id), (Value.slice sv.a sv.n sv.c)]))]) [(Sh.one CT.slice)] u (fun (s61 : Sl) (u62 : H) => (H.le u u62) ∧ (SemT Tryz.prog (Builtin.append_ #[22, 22] 22 #[(Value.slice s60.a s60.n s60.c), (Value.slice s61.a s61.n s61.c)]) [(Sh.one CT.slice)] u62 (fun (s63 : Sl) (u64 : H) => ∃ r65 : Addr, ((some (Addr.mk h.b 0 none)) = (some r65)) ∧ (H.St u64 (Addr.add r65 6) [(Value.slice s63.a s63.n s63.c)] (fun (u66 : H) => ∃ r67 : Addr, ((some (Addr.mk h.b 0 none)) = (some r67)) ∧ (∃ r68 : Addr, ((some (Addr.mk b 0 none)) = (some r68)) ∧ (∃ s69 : Sl, ((H.cell? u66 (Addr.add r67 6)) = (some (Value.slice s69.a s69.n s69.c))) ∧ (∃ x70 : Int, ((H.cell? u66 (Addr.add r68 1)) = (some (Value.int IntKind.i64 x70))) ∧ (((x70 < (s69.n : Int)) → ∃ r71 : Addr, ((some (Addr.mk h.b 0 none)) = (some r71)) ∧ (∃ s72 : Sl, ((H.cell? u66 (Addr.add r71 6)) = (some (Value.slice s72.a s72.n s72.c))) ∧ (C.kdtree_Tree__cut (some (Addr.mk b 0 none)) s72 u66 (fun (p73 : (Option Addr)) (u74 : H) => ∃ r75 : Addr, (p73 = (some r75)) ∧ (∃ x76 : Int, ((H.cell? u74 r75) = (some (Value.int IntKind.i64 x76))) ∧ (∃ s77 : Sl, ((H.cell? u74 (Addr.add r75 1)) = (some (Value.slice s77.a s77.n s77.c))) ∧ (∃ s78 : Sl, ((H.cell? u74 (Addr.add r75 2)) = (some (Value.slice s78.a s78.n s78.c))) ∧ (∃ x79 : Int, ((H.cell? u74 (Addr.add r75 3)) = (some (Value.int IntKind.u64 x79))) ∧ (∃ x80 : Int, ((H.cell? u74 (Addr.add r75 4)) = (some (Value.int IntKind.u64 x80))) ∧ (∃ s81 : Sl, ((H.cell? u74 (Addr.add r75 5)) = (some (Value.slice s81.a s81.n s81.c))) ∧ (∃ s82 : Sl, ((H.cell? u74 (Addr.add r75 6)) = (some (Value.slice s82.a s82.n s82.c))) ∧ (∃ s83 : Sl, ((H.cell? u74 (Addr.add r75 7)) = (some (Value.slice s83.a s83.n s83.c))) ∧ (∃ r84 : Addr, ((some (Addr.mk h.b 0 none)) = (some r84)) ∧ (H.St u74 r84 [(Value.int IntKind.i64 x76), (Value.slice s77.a s77.n s77.c), (Value.slice s78.a s78.n s78.c), (Value.int IntKind.u64 x79), (Value.int IntKind.u64 x80), (Value.slice s81.a s81.n s81.c), (Value.slice s82.a s82.n s82.c), (Value.slice s83.a s83.n s83.c)] (fun (u85 : H) => Fin u85))))))))))))))) ∧ ((¬ (x70 < (s69.n : Int))) → Fin u66)))))))))))) := by
  obtain ⟨hph, hnd, hout, hvec, hsh⟩ := w.head
  obtain ⟨h1, hh1⟩ : ∃ h1 : PH, h1 = h := ⟨_, rfl⟩
  have hcell : u h.b = some (.cells (partC h).toArray 94 (0, 0)) := hph.cell
  have hO : OwnF ub u 43 2 h.sr (h.rows.flatMap encR) := ⟨hph.rws, w.base, fun g hg => (hout g (by simp [PH.blks, hg])).1⟩
  have hsn : h.sr.n = h.rows.length := flat_n encR_len (by decide) hO.own.seg
  have hrl := hrok.len
  rw [List.length_append] at hrl
  simp only [List.length_cons, List.length_nil] at hrl
  -- the blocks of the part
  have hq : h.sr.blk ≠ some h.b := fun e => by
    have h1 := (blks_perm h).nodup_iff.1 hnd
    rw [List.nodup_append] at h1
    exact h1.2.2 h.b (by rw [e]; simp) h.b (List.mem_cons_self ..) rfl
  have hqo : ∀ g, (h.sl.blk = some g ∨ h.sg.blk = some g ∨ h.sk.blk = some g) → g ∈ h.blks ∧ g ≠ h.b ∧ h.sr.blk ≠ some g := fun g hg => by
    have h1 := (blks_perm h).nodup_iff.1 hnd
    rw [List.nodup_append] at h1
    have h2 : g ∈ h.sl.blk.toList ++ h.sg.blk.toList ++ h.sk.blk.toList := by
      rw [List.mem_append, List.mem_append]
      rcases hg with e | e | e
      · exact .inl (.inl (by rw [e]; simp))
      · exact .inl (.inr (by rw [e]; simp))
      · exact .inr (by rw [e]; simp)
    exact ⟨(blks_perm h).mem_iff.2 (List.mem_append_right _ (List.mem_cons_of_mem _ h2)), fun e => (List.nodup_cons.1 h1.2.1).1 (by rw [← e]; exact h2), fun e => h1.2.2 g (by rw [e]; simp) g (List.mem_cons_of_mem _ h2) rfl⟩
  refine ⟨_, rfl, h.sr, H.cell?_of hcell 6, ?_⟩
  refine sem_push tRows (build_row1 id sv) (by decide) rfl (by simp [Value.oneCell']) hO (by omega) (by rw [hsn]; show (h.rows.length + 1) * _ ≤ _; omega) fun s' u64 ho' hn' he' hbl _ => ?_
  have ho' : OwnF ub u64 43 2 s' ((h.rows ++ [(⟨id, sv, v⟩ : Rw)]).flatMap encR) := by rw [List.flatMap_append]; exact ho'
  have hsb : s'.blk ≠ some h.b := fun e => by
    rcases hbl _ e with e | e
    · exact hq e
    · rw [hcell] at e; cases e
  have hc64 : u64 h.b = some (.cells (partC h).toArray 94 (0, 0)) := he' _ _ hcell hq
  refine ⟨_, rfl, st_rows hc64 s' (h.rows ++ [⟨id, sv, v⟩]) ?_⟩
  obtain ⟨g1, hg1⟩ : ∃ g1 : PH, g1 = { h with sr := s', rows := h.rows ++ [⟨id, sv, v⟩] } := ⟨_, rfl⟩
  have g1b : g1.b = h.b := by rw [hg1]
  rw [← hg1]
  obtain ⟨u66, hu66⟩ : ∃ u66, u66 = u64.ins h.b (.cells (partC g1).toArray 94 (0, 0)) := ⟨_, rfl⟩
  rw [← hu66]
  have c66 : u66 h.b = some (.cells (partC g1).toArray 94 (0, 0)) := by rw [hu66]; exact H.ins_same _ _ _
  have f66 : ∀ c o, u64 c = some o → c ≠ h.b → u66 c = some o := fun c o hc hne => by rw [hu66, H.ins_other _ _ hne]; exact hc
  have e66 : ∀ c o, u c = some o → c ≠ h.b → h.sr.blk ≠ some c → u66 c = some o := fun c o hc h2 h3 => f66 c o (he' c o hc h3) h2
  have mB : h.b ∈ h.blks := List.mem_cons_self ..
  have mR : ∀ {g}, h.sr.blk = some g → g ∈ h.blks := fun {g} e => by simp [PH.blks, e]
  have el66 : ∀ c o, u c = some o → c ∉ h.blks → u66 c = some o := fun c o hc hm => e66 c o hc (fun e => hm (by rw [e]; exact mB)) fun e => hm (mR e)
  have hub66 : ub.le u66 := fun c o hc => el66 c o (w.base c o hc) fun hm => by rw [(hout c hm).1] at hc; cases hc
  have own66 : OwnF ub u66 43 2 s' ((h.rows ++ [(⟨id, sv, v⟩ : Rw)]).flatMap encR) := ⟨ho'.own.le fun c o hc ho => f66 c o ho fun e => hsb (by rw [← e]; exact hc), hub66, ho'.fresh⟩
  have cB : u66.cell? ((Addr.mk h.b 0 none).add 6) = some (.slice s'.a s'.n s'.c) := by
    have : g1.sr = s' := by rw [hg1]
    have h9 : u66.cell? ((Addr.mk h.b 0 none).add 6) = some (.slice g1.sr.a g1.sr.n g1.sr.c) := H.cell?_of c66 6
    rw [this] at h9
    exact h9
  have nown : (PN.mk h []).own = h.blks := by unfold PN.own; rw [PN.heads, PN.headsL]; simp
  have hvN : ∀ r ∈ h.rows ++ [(⟨id, sv, v⟩ : Rw)], Ints ub r.s r.v ∧ ∀ g, r.s.blk = some g → W g ∨ sv.blk = some g := fun r hr => by
    rcases List.mem_append.1 hr with hr | hr
    · exact ⟨(hvec r hr).1, fun g hg => .inl ((hvec r hr).2 g hg)⟩
    · rw [List.mem_singleton.1 hr]
      exact ⟨hsv, fun g hg => .inr hg⟩
  refine ⟨_, rfl, _, rfl, s', cB, leaf, H.le.cell hub66 tl, fun _ => ?_, fun _ => ?_⟩
  · -- too many: cut
    obtain ⟨ux, hux⟩ : ∃ ux, ux = H.sans u66 s' := ⟨_, rfl⟩
    have lux : ub.le ux := fun c o hc => by
      rw [hux, sans_at (fun e => by rw [ho'.fresh c e] at hc; cases hc)]
      exact hub66 c o hc
    refine ⟨_, rfl, s', cB, spec.cut (ub := ux) hlf (H.le.cell lux td) (H.le.cell lux tl) ⟨own66.own, by rw [hux]; exact sans_le _ _, fun g hg => by rw [hux]; exact if_pos hg⟩ (fun r hr => ((hvN r hr).1).mono lux) hrok (fun e => absurd e (by simp)) fun _ u74 n2 hc hsh2 => ?_⟩
    obtain ⟨hh, kk⟩ := n2
    have hone := hc.one (hh, kk.map PN.b) (by rw [PN.heads]; exact List.mem_cons_self ..)
    have hcc : u74 hh.b = some (.cells (partC hh).toArray 94 (0, 0)) := hone.cell
    refine ⟨_, rfl, _, H.cell?_of hcc 0, hh.sl, H.cell?_of hcc 1, hh.sg, H.cell?_of hcc 2, _, H.cell?_of hcc 3, _, H.cell?_of hcc 4, ⟨none, 0, 0⟩, H.cell?_of hcc 5, hh.sr, H.cell?_of hcc 6, hh.sk, H.cell?_of hcc 7, _, rfl, ?_⟩
    have c74 : u74 h.b = some (.cells (partC g1).toArray 94 (0, 0)) := hc.else' _ _ c66 hsb
    refine st_part (h2 := hh) c74 ?_
    obtain ⟨g2, hg2⟩ : ∃ g2 : PH, g2 = { hh with b := h.b } := ⟨_, rfl⟩
    have eg2 : partC hh = partC g2 := by rw [hg2]; rfl
    rw [eg2]
    obtain ⟨u85, hu85⟩ : ∃ u85, u85 = u74.ins h.b (.cells (partC g2).toArray 94 (0, 0)) := ⟨_, rfl⟩
    rw [← hu85]
    have e85 : ∀ c o, u74 c = some o → c ≠ h.b → u85 c = some o := fun c o hc' hne => by rw [hu85, H.ins_other _ _ hne]; exact hc'
    have hnB : h.b ∉ (PN.mk hh kk).own := fun hm => by
      have := (hc.out _ hm).1
      rw [hux, sans_at hsb, c66] at this
      cases this
    have owE : (PN.mk hh kk).own = hh.b :: ((hh.sl.blk.toList ++ hh.sg.blk.toList ++ hh.sr.blk.toList ++ hh.sk.blk.toList) ++ kk.flatMap PN.own) := by rw [PN.own_eq]; rfl
    have owE2 : (PN.mk g2 kk).own = h.b :: ((hh.sl.blk.toList ++ hh.sg.blk.toList ++ hh.sr.blk.toList ++ hh.sk.blk.toList) ++ kk.flatMap PN.own) := by rw [PN.own_eq, hg2]; rfl
    have heE2 : (PN.mk g2 kk).heads = (g2, kk.map PN.b) :: PN.headsL kk := by rw [PN.heads]
    have heE : (PN.mk hh kk).heads = (hh, kk.map PN.b) :: PN.headsL kk := by rw [PN.heads]
    have ptE : (PN.mk g2 kk).pt = (PN.mk hh kk).pt := by rw [PN.pt_eq, PN.pt_eq, hg2]; rfl
    have hnd2 := hc.nodup
    have sub2 : ∀ c ∈ (PN.mk g2 kk).own, c = h.b ∨ c ∈ (PN.mk hh kk).own := fun c hcm => by
      rw [owE2] at hcm
      rcases List.mem_cons.1 hcm with e | e
      · exact .inl e
      · exact .inr (by rw [owE]; exact List.mem_cons_of_mem _ e)
    have el85 : ∀ c o, u c = some o → c ∉ (PN.mk h []).own → u85 c = some o := fun c o hc' hm => by
      rw [nown] at hm
      refine e85 c o (hc.else' c o (el66 c o hc' hm) fun e => ?_) fun e => hm (by rw [e]; exact mB)
      rcases hbl c e with e | e
      · exact hm (mR e)
      · rw [hc'] at e; cases e
    have hub85 : ub.le u85 := fun c o hc' => el85 c o (w.base c o hc') fun hm => by rw [nown] at hm; rw [(hout c hm).1] at hc'; cases hc'
    have keepP : ∀ {x : PH × List Nat}, PhAt u74 x → (∀ c ∈ x.1.blks, c ≠ h.b) → (∀ r ∈ x.1.rows, r ∈ h.rows ++ [(⟨id, sv, v⟩ : Rw)]) → PhAt u85 x := fun hx hb hr => hx.keep (fun c o hcm ho => e85 c o ho (hb c hcm)) fun r hrm => ((hvN r (hr r hrm)).1).mono hub85
    refine hfin u85 _ (Way.down w (n' := .mk g2 kk) (by rw [show (PN.mk g2 kk).b = g2.b from rfl, hg2]; rfl) (fun x hx => ?_) ?_ el85 (fun c hcm => ?_) (fun x hx y hy => ?_) (fun y hy g hg => .inl (hy g hg)) ?_ (by rw [ptE]; exact hc.ok) (by rw [ptE]; exact hsh2) ?_)
    · rw [heE2] at hx
      rcases List.mem_cons.1 hx with rfl | hx
      · have hz : ∀ g, (hh.sl.blk = some g ∨ hh.sg.blk = some g ∨ hh.sr.blk = some g ∨ hh.sk.blk = some g) → g ≠ h.b := fun g hg e => hnB (by
          rw [owE, ← e]
          refine List.mem_cons_of_mem _ (List.mem_append_left _ ?_)
          rw [List.mem_append, List.mem_append, List.mem_append]
          rcases hg with e | e | e | e
          · exact .inl (.inl (.inl (by rw [e]; simp)))
          · exact .inl (.inl (.inr (by rw [e]; simp)))
          · exact .inl (.inr (by rw [e]; simp))
          · exact .inr (by rw [e]; simp))
        have hrow : ∀ r ∈ hh.rows, r ∈ h.rows ++ [(⟨id, sv, v⟩ : Rw)] := fun r hr => hc.rows (hh, kk.map PN.b) (by rw [heE]; exact List.mem_cons_self ..) r hr
        rw [hg2]
        refine ⟨?_, hone.lo.le fun c o hcb ho => e85 c o ho (hz c (.inl hcb)), hone.hi.le fun c o hcb ho => e85 c o ho (hz c (.inr (.inl hcb))), hone.rws.le fun c o hcb ho => e85 c o ho (hz c (.inr (.inr (.inl hcb)))), fun r hr => ((hvN r (hrow r hr)).1).mono hub85, Seg.else hone.kid fun c o hcb ho => e85 c o ho (hz c (.inr (.inr (.inr hcb))))⟩
        show u85 h.b = _
        rw [hu85, H.ins_same, hg2]
      · have hx' : x ∈ (PN.mk hh kk).heads := by rw [heE]; exact List.mem_cons_of_mem _ hx
        exact keepP (hc.one x hx') (fun c hcm e => hnB (by rw [← e]; exact List.mem_flatMap.2 ⟨x, hx', hcm⟩)) (hc.rows x hx')
    · rw [owE2, List.nodup_cons]
      rw [owE, List.nodup_cons] at hnd2
      exact ⟨fun hm => hnB (by rw [owE]; exact List.mem_cons_of_mem _ hm), hnd2.2⟩
    · rcases sub2 c hcm with rfl | hcm
      · exact ⟨.inl (by rw [nown]; exact mB), by rw [hu85, H.ins_same]; simp⟩
      · obtain ⟨q1, q2⟩ := hc.out c hcm
        refine ⟨?_, ?_⟩
        · by_cases e : s'.blk = some c
          · rcases hbl c e with e | e
            · exact .inl (by rw [nown]; exact mR e)
            · exact .inr e
          · rw [hux, sans_at e] at q1
            cases hx : u c with
            | none => exact .inr rfl
            | some o =>
              left
              rw [nown]
              by_cases hm : c ∈ h.blks
              · exact hm
              · rw [el66 c o hx hm] at q1; cases q1
        · obtain ⟨o, ho⟩ := Option.ne_none_iff_exists'.1 q2
          rw [e85 c o ho (fun e => hnB (by rw [← e]; exact hcm))]; simp
    · rw [heE2] at hx
      rcases List.mem_cons.1 hx with rfl | hx
      · exact (hvN y (hc.rows (hh, kk.map PN.b) (by rw [heE]; exact List.mem_cons_self ..) y (by rw [hg2] at hy; exact hy))).2
      · exact (hvN y (hc.rows x (by rw [heE]; exact List.mem_cons_of_mem _ hx) y hy)).2
    · rw [ptE]
      refine hc.all.trans ?_
      rw [List.map_append, PN.pt_all, PN.heads, PN.headsL]
      simp only [List.flatMap_cons, List.flatMap_nil, List.append_nil]
      exact List.perm_append_singleton _ _
    · have := hc.size
      rw [heE] at this
      rw [heE2]
      rw [List.length_append] at this
      simp only [List.length_cons, List.length_nil] at this ⊢
      omega
  · -- it is a leaf still
    have hl := leaf_ok (id := id) (sv := sv) (s := s') (plug_sub fs w.ok) hin
    rw [← hg1] at hl
    have nown1 : (PN.mk g1 []).own = g1.blks := by unfold PN.own; rw [PN.heads, PN.headsL]; simp
    have nh1 : (PN.mk g1 []).heads = [(g1, [])] := by rw [PN.heads, PN.headsL]; rfl
    have mem1 : ∀ c ∈ g1.blks, c = h.b ∨ (h.sl.blk = some c ∨ h.sg.blk = some c ∨ h.sk.blk = some c) ∨ s'.blk = some c := fun c hc => by
      rw [hg1] at hc
      have hc := (blks_perm _).mem_iff.1 hc
      rcases List.mem_append.1 hc with hc | hc
      · exact .inr (.inr (by simpa using hc))
      · rcases List.mem_cons.1 hc with hc | hc
        · exact .inl hc
        · rw [List.mem_append, List.mem_append] at hc
          rcases hc with (hc | hc) | hc
          · exact .inr (.inl (.inl (by simpa using hc)))
          · exact .inr (.inl (.inr (.inl (by simpa using hc))))
          · exact .inr (.inl (.inr (.inr (by simpa using hc))))
    refine hfin u66 _ (Way.down w (n' := .mk g1 []) g1b (fun x hx => ?_) ?_ (fun c o hc hm => el66 c o hc (by rw [← nown]; exact hm)) (fun c hc => ?_) (fun x hx y hy => ?_) (fun y hy g hg => .inl (hy g hg)) hl.2 hl.1 ?_ (by rw [nh1]; show 1 ≤ _; have := (PN.mk h []).heads_pos; omega))
    · rw [nh1, List.mem_singleton] at hx
      subst hx
      have k1 : ∀ {s : Sl} {c : Nat} {o : Obj}, (h.sl.blk = some c ∨ h.sg.blk = some c ∨ h.sk.blk = some c) → u c = some o → u66 c = some o := fun {s c o} hc ho => e66 c o ho (hqo c hc).2.1 (hqo c hc).2.2
      refine ⟨by show u66 g1.b = _; rw [g1b]; exact c66, ?_, ?_, ?_, fun r hr => ?_, ?_⟩
      · rw [hg1]; exact hph.lo.le fun c o hc ho => k1 (s := h.sl) (.inl hc) ho
      · rw [hg1]; exact hph.hi.le fun c o hc ho => k1 (s := h.sl) (.inr (.inl hc)) ho
      · rw [hg1]; exact own66.own
      · rw [hg1] at hr; exact ((hvN r hr).1).mono hub66
      · rw [hg1]; exact Seg.else hph.kid fun c o hc ho => k1 (s := h.sl) (.inr (.inr hc)) ho
    · rw [nown1, hg1]
      refine blks_sr hnd _ fun g hg => (hbl g hg).imp (fun e => e) fun e hm => (hout g hm).2 e
    · rw [nown1] at hc
      rw [nown]
      rcases mem1 c hc with rfl | hc | hc
      · exact ⟨.inl mB, by rw [c66]; simp⟩
      · obtain ⟨q1, q2, q3⟩ := hqo c hc
        obtain ⟨o, ho⟩ := Option.ne_none_iff_exists'.1 (hout c q1).2
        exact ⟨.inl q1, by rw [e66 c o ho q2 q3]; simp⟩
      · exact ⟨(hbl c hc).imp mR (fun e => e), own_known own66 hc⟩
    · rw [nh1, List.mem_singleton] at hx
      subst hx
      exact (hvN y (by rw [hg1] at hy; exact hy)).2
    · rw [PN.pt_eq]
      refine .mk ?_ fun k hk => (by cases hk)
      show g1.sh = 2
      rw [hg1]
      exact hsh

end Go.Proofs.YtncninpdlpemgaaGreat.Kd
