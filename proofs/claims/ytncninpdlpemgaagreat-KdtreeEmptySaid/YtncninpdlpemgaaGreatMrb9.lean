/- Texts of mine, joined by merge.py: VcKd8, VcLawF, VcOwn2, VcTable, VcTable2, VcIxKd, VcLawT1, VcOpen2, VcLawT3, VcLawT4, VcLawT5, VcLawT6, VcLawT7, VcLawT8, VcLawT9, VcLawTA. -/
import Derived.Test.YtncninpdlpemgaaGreatMrb8
import Derived.Test.YtncninpdlpemgaaGreatRows
import Derived.Deep.Strs
set_option maxRecDepth 100000

/- VcKd8 -/
namespace Go.Proofs.YtncninpdlpemgaaGreat.Kd

/-- The row is gone, if it was there. -/
structure Gone (u0 u : H) (fp : Nat → Option Tg) (b : Nat) (T : Tr) (id : Int) (u' : H) (fp' : Nat → Option Tg) (T' : Tr) : Prop where
  is : In u0 u' fp' b T'
  turn : TurnG u fp u' fp'
  ok : TOk T'
  rows : ixRows T' = (ixRows T).filter fun x => x.1 != id
  dim : T'.dim = T.dim
  leaf : T'.leaf = T.leaf
  gas : T'.gas = T.gas
  no : id ∉ T'.w.map (·.1)
  few : T'.w.length < 512

theorem spec.Gone {u0 u : H} {fp : Nat → Option Tg} {b : Nat} {T : Tr} {id : Int} {K : Bool → Int → H → Prop} (h : In u0 u fp b T) (hT : TOk T) (hgas : T.gas ≤ 4000) (hfew : id ∉ T.w.map (·.1) → T.w.length < 512)
    (hK : ∀ bb u' fp' T', Gone u0 u fp b T id u' fp' T' → K bb 0 u') : C.kdtree_Tree__Delete (some ⟨b, 0, none⟩) id u K := by
  refine spec.Delete h hT hgas (fun hno u1 hu1 => hK _ u1 fp T ⟨h.mono keep hu1, TurnG.mono hu1, hT, ?_, rfl, rfl, rfl, hno, hfew hno⟩) fun hin u1 fp1 T1 hr => hK _ u1 fp1 T1 ⟨hr.is, hr.turn, hr.ok, hr.rows, hr.dim, hr.leaf, hr.gas, ?_, ?_⟩
  · refine (List.filter_eq_self.2 fun x hx => ?_).symm
    have : x.1 ≠ id := fun e => hno (by rw [← keys_ix]; exact List.mem_map.2 ⟨x, hx, e⟩)
    simpa using this
  · rw [← keys_ix, hr.rows]
    intro hm
    obtain ⟨p, hp, e⟩ := List.mem_map.1 hm
    have := (List.mem_filter.1 hp).2
    simp [e] at this
  · have hs := hT.small
    have e1 : T1.w.length = (ixRows T1).length := by simp [ixRows]
    have e2 : T.w.length = (ixRows T).length := by simp [ixRows]
    rw [← keys_ix] at hin
    obtain ⟨p, hp, e⟩ := List.mem_map.1 hin
    have : ((ixRows T).filter fun p => p.1 != id).length < (ixRows T).length := List.length_filter_lt_length_iff_exists.2 ⟨p, hp, by simp [e]⟩
    rw [hr.rows] at e1
    omega

theorem box_len {d : Int} {h : PH} {ks : List PN} (hp : PtOk d (PN.mk h ks).pt) (hsh : h.sh = 2) : (h.lo.length : Int) = d ∧ (h.hi.length : Int) = d := by
  have h1 := hp.reg
  rw [PN.pt_eq] at h1
  obtain ⟨_, _, _, hs⟩ := h1
  rcases hs with ⟨e, _⟩ | ⟨_, e⟩ | ⟨e, _⟩
  · have : h.sh = 1 := e
    omega
  · exact ⟨e.2.2.2.1, e.2.2.2.2.1⟩
  · have : h.sh = 3 := e
    omega

theorem mem_sum : ∀ {l : List Nat} {x : Nat}, x ∈ l → x ≤ l.sum
  | y :: l, x, h => by
    rw [List.sum_cons]
    rcases List.mem_cons.1 h with rfl | h
    · omega
    · have := mem_sum h
      omega

theorem kid_lt {h : PH} {ks : List PN} {i : Nat} (hi : i < ks.length) : ks[i].heads.length < (PN.mk h ks).heads.length := by
  rw [PN.heads, PN.headsL_eq, List.length_cons, List.length_flatMap]
  have : ks[i].heads.length ≤ (ks.map fun k => k.heads.length).sum := mem_sum (List.mem_map.2 ⟨ks[i], List.getElem_mem hi, rfl⟩)
  omega

theorem spec.Put {u0 u : H} {fp : Nat → Option Tg} {b : Nat} {T : Tr} {id : Int} {t : Sl} {q : List Int} {K : Bool → Int → H → Prop} (h : In u0 u fp b T) (hT : TOk T) (hgas : T.gas ≤ 4000) (ht : Ints u t q) (hkeep : ∀ u1 fp1, u0.le u1 → TurnG u fp u1 fp1 → Ints u1 t q)
    (hbad : mayErr id q T.dim (decide (id ∈ (ixRows T).map (·.1))) (ixRows T).length ≠ 0 → K false (mayErr id q T.dim (decide (id ∈ (ixRows T).map (·.1))) (ixRows T).length) u)
    (hok : mayErr id q T.dim (decide (id ∈ (ixRows T).map (·.1))) (ixRows T).length = 0 → ∀ u' fp' T', PutRes u0 u fp b T id q u' fp' T' → K (decide (id ∉ (ixRows T).map (·.1))) 0 u') : C.kdtree_Tree__Put (some ⟨b, 0, none⟩) id t u K := by
  apply vc.kdtree_Tree__Put
  refine ⟨fun e => (by cases e), fun _ => ⟨_, rfl, _, H.cell?_of h.tr.cell 3, ?_⟩⟩
  obtain ⟨y, hy, hsome⟩ : ∃ y : Sl, (getL (entL T.w) id).getD (.slice none 0 0) = CT.slice.enc y ∧ (getL (entL T.w) id).isSome = decide (id ∈ (ixRows T).map (·.1)) := by
    rw [keys_ix]
    rcases getE T.w id with ⟨hg, hm⟩ | ⟨e, he, hid, hg⟩
    · exact ⟨⟨none, 0, 0⟩, by rw [hg]; rfl, by rw [hg, decide_eq_false hm]; rfl⟩
    · exact ⟨e.2.1, by rw [hg]; rfl, by rw [hg, decide_eq_true (List.mem_map.2 ⟨e, he, hid⟩)]; rfl⟩
  refine sem_get2 mapTy h.tr.map (ct := .slice) y hy ?_
  rw [hsome]
  refine ⟨_, rfl, _, rfl, _, H.cell?_of h.tr.cell 0, _, H.cell?_of h.tr.cell 3, sem_maplen mapTy h.tr.map ⟨H.le.refl u, spec.flat_May ht ?_⟩⟩
  rw [ent_len]
  refine ⟨fun hne => hbad hne, fun he => ?_⟩
  have hok := hok he
  obtain ⟨d1, d2, hvc, d4⟩ : 1 ≤ id ∧ id ≤ 1000000000 ∧ vcheck q T.dim = 0 ∧ (decide (id ∈ (ixRows T).map (·.1)) = false → ((ixRows T).length : Int) < 512) := by
    unfold mayErr at he
    split at he
    · cases he
    · rename_i h1
      split at he
      · rename_i h2; exact absurd he h2
      · rename_i h2
        split at he
        · cases he
        · rename_i h3
          refine ⟨by omega, by omega, by simpa using h2, fun e => ?_⟩
          by_cases h4 : ((ixRows T).length : Int) < 512
          · exact h4
          · exact absurd ⟨e, by omega⟩ h3
  obtain ⟨e1, e2, e3, e4⟩ := vcheck_ok hvc
  have hb : (!decide (decide (id ∈ (ixRows T).map (·.1)) = true)) = decide (id ∉ (ixRows T).map (·.1)) := by
    by_cases hin : id ∈ (ixRows T).map (·.1) <;> simp [hin]
  have hb' : ∀ z : H, K (decide (id ∉ (ixRows T).map (·.1))) 0 z → K (!decide (decide (id ∈ (ixRows T).map (·.1)) = true)) 0 z := fun z hz => by rw [hb]; exact hz
  refine spec.Gone h hT hgas (fun hno => ?_) fun _ u1 fp1 T1 hg => ?_
  · have := d4 (decide_eq_false (by rw [keys_ix]; exact hno))
    have e5 : T.w.length = (ixRows T).length := by simp [ixRows]
    omega
  have i1 := hg.is
  have ok1 := hg.ok
  have hi1 := hkeep u1 fp1 i1.le hg.turn
  refine spec.slices_Clone___int_int_ hi1 (by have := hi1.len; omega) fun s16 u17 ho16 _ => ?_
  have l17 := ho16.le
  have tr := (InG.mono keep i1 l17).tr
  refine ⟨_, rfl, _, H.cell?_of tr.cell 3, sem_put mapTy tr.map (getL_none.2 (by unfold entL; rw [List.map_map]; exact hg.no)) fun om hmap => ?_⟩
  obtain ⟨u20, hu20⟩ : ∃ u20, u20 = u17.ins T1.m om := ⟨_, rfl⟩
  rw [← hu20] at hmap ⊢
  have m20 : u20 T1.m = some om := by rw [hu20]; exact H.ins_same _ _ _
  have e20 : ∀ c o, u17 c = some o → c ≠ T1.m → u20 c = some o := fun c o hc hne => by rw [hu20, H.ins_other _ _ hne]; exact hc
  have mb : ∀ {c}, fp1 c ≠ some .map → c ≠ T1.m := fun hc e => hc (by rw [e]; exact tr.mtag)
  have n20 : ∀ {c}, u20 c = none → u1 c = none ∧ s16.blk ≠ some c := fun {c} hc => by
    have hne : c ≠ T1.m := fun e => by rw [e, m20] at hc; cases hc
    have h17 : u17 c = none := by rw [hu20, H.ins_other _ _ hne] at hc; exact hc
    exact ⟨l17.none h17, fun e => own_known ho16 e h17⟩
  have smap : ∀ g, s16.blk = some g → u1 g = none ∧ g ≠ T1.m := fun g hg' => ⟨ho16.fresh g hg', fun e => by
    have := i1.known T1.m (by rw [tr.mtag]; simp)
    rw [← e] at this
    exact this (ho16.fresh g hg')⟩
  have hmap' : MapAt u20 T1.m (entL (T1.w ++ [(id, (s16, q))])) := by
    have : entL (T1.w ++ [(id, (s16, q))]) = entL T1.w ++ [(id, .slice s16.a s16.n s16.c)] := by simp [entL]
    rw [this]; exact hmap
  have sv20 : Ints u20 s16 q := Seg.else ho16.ints fun g o hg' ho => e20 g o ho (smap g hg').2
  have c20 : u20 b = some (.cells (treeC T1).toArray 86 (0, 0)) := e20 _ _ tr.cell (mb (by rw [tr.btag]; simp))
  have td20 : u20.cell? ⟨b, 0, none⟩ = some (.int .i64 T1.dim) := H.cell?_of c20 0
  have tl20 : u20.cell? ((Addr.mk b 0 none).add 1) = some (.int .i64 T1.leaf) := H.cell?_of c20 1
  have hqd : (q.length : Int) = T1.dim := by rw [hg.dim]; exact e3
  -- what is left when all is in place
  have fin : ∀ u' r, PutFin u1 fp1 b T1 id s16 q u' r → K (!decide (decide (id ∈ (ixRows T).map (·.1)) = true)) 0 u' := fun u' r hf => by
    obtain ⟨fp', T', f1, f2, f3, f4, f5, f6, f7⟩ := hf.res i1 ok1 ⟨d1, d2⟩ ⟨hqd, e4⟩ hg.few
    refine hb' _ (hok u' fp' T' ⟨f1, hg.turn.trans f2, f3, by rw [← hg.rows]; exact f4, f5.trans hg.dim, f6.trans hg.leaf, by rw [← hg.gas]; exact f7⟩)
  have hrokn : ∀ l : List Rw, ((l.map Rw.pr).Perm ((id, q) :: rootAll T1) ∨ ∃ m : List Prw, ((l.map Rw.pr) ++ m).Perm ((id, q) :: rootAll T1)) → Rok l T1.dim := fun l hl => by
    obtain ⟨m, hm⟩ : ∃ m : List Prw, ((l.map Rw.pr) ++ m).Perm ((id, q) :: rootAll T1) := hl.elim (fun h => ⟨[], by rw [List.append_nil]; exact h⟩) fun h => h
    have hp2 : ((l.map Rw.pr) ++ m).Perm ((id, q) :: ixRows T1) := hm.trans (List.Perm.cons _ ok1.rows)
    have hnd : (((id, q) :: ixRows T1).map (·.1)).Nodup := by
      rw [List.map_cons, List.nodup_cons]
      exact ⟨by rw [keys_ix]; exact hg.no, i1.tr.wnodup⟩
    have hlen := hp2.length_eq
    have hfew := hg.few
    simp only [List.length_append, List.length_map, List.length_cons, ixRows] at hlen
    refine rok_pr ok1.dm (by omega) ?_ fun p hp => ?_
    · have := (hp2.map (·.1)).nodup_iff.2 hnd
      rw [List.map_append, List.nodup_append] at this
      rw [show l.map (·.id) = (l.map Rw.pr).map (·.1) by rw [List.map_map]; rfl]
      exact this.1
    · rcases List.mem_cons.1 (hp2.mem_iff.1 (List.mem_append_left _ hp)) with rfl | hp
      · exact ⟨d1, d2, hqd, e4⟩
      · obtain ⟨e, he', rfl⟩ := List.mem_map.1 hp
        exact ⟨(ok1.ids e he').1, (ok1.ids e he').2, ok1.vec e he'⟩
  cases hroot : T1.root with
  | none =>
    have hcr : u20.cell? ((Addr.mk b 0 none).add 2) = some (.pointer none) := by
      have hx : treeC T1 = [.int .i64 T1.dim, .int .i64 T1.leaf, .pointer none, .map (some T1.m)] := by simp [treeC, hroot]
      rw [hx] at c20
      exact H.cell?_of c20 2
    have hall0 : rootAll T1 = [] := by unfold rootAll; rw [hroot]
    refine ⟨_, rfl, none, hcr, fun _ => ?_, fun hne => absurd rfl hne⟩
    refine sem_build (build_row1 id s16) fun g hgn => ?_
    obtain ⟨og, hog⟩ : ∃ og, og = (Obj.cells [Value.int .i64 id, .slice s16.a s16.n s16.c].toArray 43 (0, 0)) := ⟨_, rfl⟩
    rw [← hog]
    have l24 : u20.le (u20.ins g og) := H.le_ins _ hgn
    have ho24 : OwnF u20 (u20.ins g og) 43 2 ⟨some ⟨g, 0, none⟩, 1, 1⟩ (([⟨id, s16, q⟩] : List Rw).flatMap encR) := by
      rw [hog]
      exact OwnF.make (H.le.refl u20) hgn (cells := [Value.int .i64 id, .slice s16.a s16.n s16.c].toArray) (n := 1) (by omega) rfl
    refine spec.cut (ub := u20) (by have := ok1.lf; omega) td20 tl20 ho24 (fun r hr => by rw [List.mem_singleton.1 hr]; exact sv20) (hrokn _ (.inl (by rw [hall0]; exact .refl _))) (fun e => by cases e) fun _ u26 n2 hc hsh => ?_
    have gb : g ≠ b := fun e => by rw [e, c20] at hgn; cases hgn
    have k26 : ∀ c o, u20 c = some o → u26 c = some o := fun c o hc' => hc.else' c o (l24 c o hc') fun e => by
      have : g = c := by simpa [Sl.blk] using e
      rw [this, hc'] at hgn; cases hgn
    have c26 : u26 b = some (.cells #[.int .i64 T1.dim, .int .i64 T1.leaf, .pointer none, .map (some T1.m)] 86 (0, 0)) := by
      have := k26 _ _ c20
      rw [show treeC T1 = [.int .i64 T1.dim, .int .i64 T1.leaf, .pointer none, .map (some T1.m)] by simp [treeC, hroot]] at this
      exact this
    refine ⟨_, rfl, st_root c26 ?_⟩
    obtain ⟨u28, hu28⟩ : ∃ u28, u28 = u26.ins b (.cells #[.int .i64 T1.dim, .int .i64 T1.leaf, .pointer (some ⟨n2.b, 0, none⟩), .map (some T1.m)] 86 (0, 0)) := ⟨_, rfl⟩
    rw [← hu28]
    have k28 : ∀ c o, u26 c = some o → c ≠ b → u28 c = some o := fun c o hc' hne => by rw [hu28, H.ins_other _ _ hne]; exact hc'
    have bown : b ∉ n2.own := fun e => by have := (hc.out b e).1; rw [c20] at this; cases this
    have bm : T1.m ≠ b := fun e => by
      have h1 := tr.mtag
      rw [e, tr.btag] at h1; cases h1
    have sb : ∀ g', s16.blk = some g' → g' ≠ b := fun g' hg' e => by
      have := i1.known b (by rw [tr.btag]; simp)
      rw [← e] at this
      exact this (smap g' hg').1
    have k12 : ∀ c o, u1 c = some o → c ≠ T1.m → c ≠ b → u28 c = some o := fun c o hc' h1 h2 => k28 c o (k26 c o (e20 c o (l17 c o hc') h1)) h2
    refine fin u28 n2 ⟨?_, hmap'.else fun o ho => k28 _ o (k26 _ o ho) bm, Seg.else sv20 fun g' o hg' ho => k28 g' o (k26 g' o ho) (sb g' hg'), fun g' hg' => ⟨(smap g' hg').1, ?_⟩, fun c o hc' hf => ?_, fun c hc' hf => ?_, fun x hx => ?_, hc.nodup, fun c hc' => ?_, fun x hx r hr g' hg' => ?_, ?_, hc.ok, hsh, ?_⟩
    · rw [hu28, H.ins_same]; rfl
    · obtain ⟨o, ho⟩ := Option.ne_none_iff_exists'.1 (own_known ho16 hg')
      rw [k28 g' o (k26 g' o (e20 g' o ho (smap g' hg').2)) (sb g' hg')]; simp
    · refine k12 c o hc' (mb ?_) fun e => ?_
      · rcases hf with hf | hf <;> rw [hf] <;> simp
      · rw [e, tr.btag] at hf
        rcases hf with hf | hf <;> cases hf
    · by_cases h1 : c = T1.m
      · rw [h1, k28 _ _ (k26 _ _ m20) bm]; simp
      · by_cases h2 : c = b
        · rw [h2, hu28, H.ins_same]; simp
        · obtain ⟨o, ho⟩ := Option.ne_none_iff_exists'.1 hc'
          rw [k12 c o ho h1 h2]; simp
    · refine (hc.one x hx).keep (fun c o hcm ho => k28 c o ho fun e => bown (by rw [← e]; exact List.mem_flatMap.2 ⟨x, hx, hcm⟩)) fun r hr => ?_
      rw [List.mem_singleton.1 (hc.rows x hx r hr)]
      exact Seg.else sv20 fun g' o hg' ho => k28 g' o (k26 g' o ho) (sb g' hg')
    · obtain ⟨q1, q2⟩ := hc.out c hc'
      obtain ⟨o, ho⟩ := Option.ne_none_iff_exists'.1 q2
      exact ⟨.inr (n20 q1), by rw [k28 c o ho (fun e => bown (by rw [← e]; exact hc'))]; simp⟩
    · rw [List.mem_singleton.1 (hc.rows x hx r hr)] at hg'
      exact .inr hg'
    · rw [hall0]; exact hc.all
    · have := hc.size
      simp only [List.length_cons, List.length_nil] at this
      omega
  | some n0 =>
    obtain ⟨q1, q2, q3, q4⟩ := tr.one n0 hroot
    have hcr : u20.cell? ((Addr.mk b 0 none).add 2) = some (.pointer (some ⟨n0.b, 0, none⟩)) := by
      have hx : treeC T1 = [.int .i64 T1.dim, .int .i64 T1.leaf, .pointer (some ⟨n0.b, 0, none⟩), .map (some T1.m)] := by simp [treeC, hroot]
      rw [hx] at c20
      exact H.cell?_of c20 2
    have hall0 : rootAll T1 = n0.pt.all := by unfold rootAll; rw [hroot]
    -- all but the parts
    obtain ⟨ub, hub⟩ : ∃ ub : H, ub = fun c => open Classical in if c ∈ n0.own then none else u20 c := ⟨_, rfl⟩
    have ub1 : ∀ {c}, c ∈ n0.own → ub c = none := fun hc => by rw [hub]; exact if_pos hc
    have ub2 : ∀ {c}, c ∉ n0.own → ub c = u20 c := fun hc => by rw [hub]; exact if_neg hc
    have lub : ub.le u20 := fun c o' hc => by
      by_cases e : c ∈ n0.own
      · rw [ub1 e] at hc; cases hc
      · rw [ub2 e] at hc; exact hc
    have notown : ∀ {c}, fp1 c ≠ some .node → c ∉ n0.own := fun hc e => hc (q3 _ e)
    have sown : ∀ g, s16.blk = some g → g ∉ n0.own := fun g hg' e => i1.known g (by rw [q3 g e]; simp) (smap g hg').1
    have cb : ub b = some (.cells (treeC T1).toArray 86 (0, 0)) := by rw [ub2 (notown (by rw [tr.btag]; simp))]; exact c20
    have svb : Ints ub s16 q := Seg.else sv20 fun g o hg' ho => by rw [ub2 (sown g hg')]; exact ho
    have e120 : ∀ c o, u17 c = some o → fp1 c ≠ some .map → fp1 c ≠ some .node → ub c = some o := fun c o hc h1 h2 => by rw [ub2 (notown h2)]; exact e20 c o hc (mb h1)
    have hvecb : ∀ x ∈ n0.heads, ∀ r ∈ x.1.rows, Ints ub r.s r.v := fun x hx r hr => Seg.else ((q1 x hx).vec r hr) fun g o hg' ho => e120 g o ho (by rw [q4 x hx r hr g hg']; simp) (by rw [q4 x hx r hr g hg']; simp)
    have w0 : Way 2 ub u20 T1.dim q (fun g => fp1 g = some .vec) n0 [] n0 := by
      refine Way.start lub (fun x hx => (q1 x hx).keep (fun c o hc ho => e20 c o ho (mb ?_)) fun r hr => (hvecb x hx r hr).mono lub) q2 (fun c hc => ⟨ub1 hc, ?_⟩) (fun x hx r hr => ⟨hvecb x hx r hr, fun g hg' => q4 x hx r hr g hg'⟩) (ok1.ok n0 hroot) (ok1.shp n0 hroot)
      · rw [q3 c (List.mem_flatMap.2 ⟨x, hx, hc⟩)]; simp
      · have hk := i1.known c (by rw [q3 c hc]; simp)
        obtain ⟨o, ho⟩ := Option.ne_none_iff_exists'.1 hk
        rw [e20 c o (l17 c o ho) (mb (by rw [q3 c hc]; simp))]; simp
    refine ⟨_, rfl, _, hcr, fun e => (by cases e), fun _ => ⟨_, rfl, _, hcr, ?_⟩⟩
    let At : Option Addr → H → Nat → Prop := fun p w f => ∃ fs n, p = some ⟨n.b, 0, none⟩ ∧ Way 2 ub w T1.dim q (fun g => fp1 g = some .vec) n0 fs n ∧ n.heads.length = f
    refine ⟨fun p w => ∃ f, At p w f, fun p w => least (At p w), ⟨_, [], n0, rfl, w0, rfl⟩, fun p33 u34 hI => ?_⟩
    have hfl := least_is hI
    generalize hfe : least (At p33 u34) = f at hfl
    obtain ⟨fs, n, hp, w, hnf⟩ := hfl
    obtain ⟨nh, ks⟩ := n
    obtain rfl : p33 = some ⟨nh.b, 0, none⟩ := hp
    obtain ⟨hph, hnd, hout, hvec, hsh⟩ := w.head
    have hpk := plug_sub fs w.ok
    obtain ⟨bl1, bl2⟩ := box_len hpk hsh
    refine spec.grow svb w.base hph hnd (fun c hc => (hout c hc).1) (fun r hr => (hvec r hr).1) (by omega) (by omega) (by have := ok1.dm; omega) fun u38 hph38 hel hkn => ?_
    obtain ⟨gok, gin⟩ := grow_ok (ks := ks) hsh hpk e4 hqd
    have w38 : Way 2 ub u38 T1.dim q (fun g => fp1 g = some .vec) n0 fs (.mk (growH nh q) ks) := w.turn rfl rfl rfl hph38 hel hkn gok
    have c38 : u38 nh.b = some (.cells (partC (growH nh q)).toArray 94 (0, 0)) := hph38.cell
    have ck : u38.cell? ((Addr.mk nh.b 0 none).add 7) = some (.slice nh.sk.a nh.sk.n nh.sk.c) := H.cell?_of c38 7
    have hseg : Seg u38 nh.sk 1 ((ks.map PN.b).map fun n => .pointer (some ⟨n, 0, none⟩)) := hph38.kid
    have hskn : nh.sk.n = ks.length := by have := hseg.len; simpa using this.symm
    have hcap := Seg.cap hseg
    have hmx := Seg.max hseg
    refine ⟨_, rfl, nh.sk, ck, fun h0 => ?_, fun h0 => ?_⟩
    · -- a leaf
      obtain rfl : ks = [] := List.eq_nil_of_length_eq_zero (by omega)
      refine spec.leaf (h := growH nh q) w38 (by have := ok1.lf; omega) (H.cell?_of cb 0) (H.cell?_of cb 1) svb (hrokn _ (.inr ?_)) gin fun u' r hd => fin u' r ?_
      · refine ⟨(ctxH fs nh.b).flatMap fun x => x.1.rows.map Rw.pr, ?_⟩
        have e5 := (plug_all fs (.mk nh [])).symm.trans w.all
        rw [hall0]
        have e6 : (PN.mk nh []).pt.all = nh.rows.map Rw.pr := by rw [PN.pt_all, PN.heads, PN.headsL]; simp
        rw [e6] at e5
        rw [List.map_append]
        refine (List.Perm.append_right _ (List.perm_append_singleton _ _)).trans ?_
        exact List.Perm.cons _ e5
      · have rb : treeC { T1 with root := some r } = treeC T1 := by simp [treeC, hroot, hd.b]
        refine ⟨by rw [rb]; exact hd.le _ _ cb, ?_, svb.mono hd.le, fun g hg' => ⟨(smap g hg').1, ?_⟩, fun c o hc hf => ?_, fun c hc hf => ?_, hd.one, hd.nodup, fun c hc => ⟨?_, (hd.own c hc).2⟩, fun x hx y hy g hg' => hd.rws x hx y hy g hg', by rw [hall0]; exact hd.all, hd.ok, hd.shp, ?_⟩
        · exact hmap'.else fun o ho => hd.le _ _ (by rw [ub2 (notown (by rw [tr.mtag]; simp))]; exact ho)
        · obtain ⟨o, ho⟩ := Option.ne_none_iff_exists'.1 (own_known ho16 hg')
          rw [hd.le g o (by rw [ub2 (sown g hg')]; exact e20 g o ho (smap g hg').2)]; simp
        · exact hd.le c o (e120 c o (l17 c o hc) (by rcases hf with hf | hf <;> rw [hf] <;> simp) (by rcases hf with hf | hf <;> rw [hf] <;> simp))
        · by_cases h1 : c = T1.m
          · rw [h1, hd.le _ _ (by rw [ub2 (notown (by rw [tr.mtag]; simp))]; exact m20)]; simp
          · obtain ⟨o, ho⟩ := Option.ne_none_iff_exists'.1 hc
            rw [hd.le c o (by rw [ub2 (notown hf)]; exact e20 c o (l17 c o ho) h1)]; simp
        · have h1 := (hd.own c hc).1
          by_cases hm : c ∈ n0.own
          · exact .inl (q3 c hm)
          · rw [ub2 hm] at h1
            exact .inr (n20 h1)
        · have h1 := hd.size
          have h2 := ok1.size n0 hroot
          omega
    · -- a kid
      have hkl : 0 < ks.length := by omega
      have kid : ∀ (i : Nat) (hi : i < ks.length), PhAt u38 (ks[i].h, ks[i].kids.map PN.b) ∧ RegOk (ks[i].pt.rgn []) q.length := fun i hi => by
        have hmem : (ks[i].h, ks[i].kids.map PN.b) ∈ (PN.mk (growH nh q) ks).heads ++ ctxH fs (PN.mk (growH nh q) ks).b := by
          rw [PN.heads, PN.headsL_eq]
          refine List.mem_append_left _ (List.mem_cons_of_mem _ (List.mem_flatMap.2 ⟨ks[i], List.getElem_mem hi, ?_⟩))
          rw [PN.heads_eq]
          exact List.mem_cons_self ..
        refine ⟨w38.one _ hmem, ?_⟩
        have h3 := gok.kids ks[i].pt (by rw [PN.pt_eq]; exact List.mem_map_of_mem (List.getElem_mem hi))
        rw [hqd]
        exact h3.reg
      have near : ∀ (i : Nat) (hi : i < ks.length) {Q : Int → Int → Int → H → Prop}, (∀ x y, Q x y 0 u38) → ∃ x91 : Int, ((H.cell? u38 ⟨ks[i].b, 0, none⟩) = (some (Value.int IntKind.i64 x91))) ∧ (∃ s92 : Sl, ((H.cell? u38 (Addr.add ⟨ks[i].b, 0, none⟩ 1)) = (some (Value.slice s92.a s92.n s92.c))) ∧ (∃ s93 : Sl, ((H.cell? u38 (Addr.add ⟨ks[i].b, 0, none⟩ 2)) = (some (Value.slice s93.a s93.n s93.c))) ∧ (∃ x94 : Int, ((H.cell? u38 (Addr.add ⟨ks[i].b, 0, none⟩ 3)) = (some (Value.int IntKind.u64 x94))) ∧ (∃ x95 : Int, ((H.cell? u38 (Addr.add ⟨ks[i].b, 0, none⟩ 4)) = (some (Value.int IntKind.u64 x95))) ∧ (∃ s96 : Sl, ((H.cell? u38 (Addr.add ⟨ks[i].b, 0, none⟩ 5)) = (some (Value.slice s96.a s96.n s96.c))) ∧ (C.vec_Bound x91 s92 s93 x94 x95 s96 s16 u38 Q)))))) := fun i hi Q hQ => by
        obtain ⟨kp, kr⟩ := kid i hi
        have kc : u38 ks[i].b = some (.cells (partC ks[i].h).toArray 94 (0, 0)) := kp.cell
        have hr : (ks[i].pt.rgn []) = ⟨ks[i].h.sh, ⟨none, 0, 0⟩, ⟨none, 0, 0⟩, ks[i].h.rad, ⟨none, 0, 0⟩, ks[i].h.lo, ks[i].h.hi, []⟩ := by rw [PN.pt_eq]; rfl
        rw [hr] at kr
        exact ⟨_, H.cell?_of kc 0, ks[i].h.sl, H.cell?_of kc 1, ks[i].h.sg, H.cell?_of kc 2, _, H.cell?_of kc 3, _, H.cell?_of kc 4, ⟨none, 0, 0⟩, H.cell?_of kc 5,
          spec.vec_Bound (r := ⟨ks[i].h.sh, ks[i].h.sl, ks[i].h.sg, ks[i].h.rad, ⟨none, 0, 0⟩, ks[i].h.lo, ks[i].h.hi, []⟩) kp.lo.f.ints kp.hi.f.ints ⟨kr.dim, kr.ids, kr.id, kr.shape⟩ rfl (svb.mono w38.base) e4 (hQ _ _)⟩
      obtain ⟨a0, ha0, hc0⟩ := ptr_at hseg (i := 0) (by simpa using hkl)
      rw [List.getElem_map] at hc0
      refine ⟨_, rfl, nh.sk, ck, a0, ha0, ⟨by omega, by omega⟩, _, by simpa using hc0, _, rfl, near 0 hkl fun x97 x98 => ⟨_, rfl, nh.sk, ck, ?_⟩⟩
      refine sem_slice tPartsK (l := 1) (h := nh.sk.n) (m := nh.sk.c) (.inr rfl) (.inl ⟨rfl, rfl⟩) (.inl ⟨rfl, rfl⟩) (by omega) hcap (Nat.le_refl _) hcap ?_
      have hseg2 : Seg u38 (nh.sk.part 1 nh.sk.n nh.sk.c 1) 1 (((ks.drop 1).map PN.b).map fun n => .pointer (some ⟨n, 0, none⟩)) := by
        have := Seg.part hseg (l := 1) (h := nh.sk.n) (m := nh.sk.c) (by omega) (Nat.le_refl _) hcap (Nat.le_refl _)
        rw [List.take_of_length_le (by simp; omega)] at this
        rw [List.map_drop, List.map_drop]
        exact this
      have hn2 : (nh.sk.part 1 nh.sk.n nh.sk.c 1).n = ks.length - 1 := by show nh.sk.n - 1 = _; omega
      refine ⟨fun p x _ _ w => 0 ≤ x ∧ w = u38 ∧ ∃ (i : Nat) (hi : i < ks.length), p = some ⟨ks[i].b, 0, none⟩, fun _ x _ _ _ => ((ks.length : Int) - x).toNat, ⟨by omega, rfl, 0, hkl, rfl⟩, ?_⟩
      rintro p107 x108 x109 x110 u111 ⟨x0, rfl, i, hi, rfl⟩
      refine ⟨fun hx => ?_, fun hx => ?_⟩
      · have hxl : x108.toNat + 1 < ks.length := by omega
        obtain ⟨a1, ha1, hc1⟩ := ptr_at hseg2 (i := x108.toNat) (by rw [List.length_map, List.length_drop]; omega)
        rw [List.getElem_map, List.getElem_drop] at hc1
        have ex : 1 + x108.toNat = x108.toNat + 1 := by omega
        simp only [ex] at hc1
        have st : ∀ (p : Option Addr), (∃ (i : Nat) (hi : i < ks.length), p = some ⟨ks[i].b, 0, none⟩) → (InR (x108 + 1)) ∧ ((0 ≤ x108 + 1 ∧ u111 = u111 ∧ ∃ (i : Nat) (hi : i < ks.length), p = some ⟨ks[i].b, 0, none⟩) ∧ ((ks.length : Int) - (x108 + 1)).toNat < ((ks.length : Int) - x108).toNat) := fun p hp' => ⟨⟨by omega, by omega⟩, ⟨by omega, rfl, hp'⟩, by omega⟩
        refine ⟨a1, ha1, ⟨x0, hx⟩, _, hc1, _, rfl, near (x108.toNat + 1) hxl fun x121 x122 K125 hK => ?_⟩
        have hK' : ∀ bb, K125 bb u111 := fun bb => hK bb u111 ⟨fun _ => st _ ⟨_, hxl, rfl⟩, fun _ => st _ ⟨i, hi, rfl⟩⟩
        exact ⟨fun _ => hK' _, fun _ => ⟨fun _ => hK' _, fun _ => hK' _⟩⟩
      · -- on, into the kid
        have hks : ks = ks.take i ++ ks[i] :: ks.drop (i + 1) := by rw [← List.drop_eq_getElem_cons hi, List.take_append_drop]
        have hw : Way 2 ub u111 T1.dim q (fun g => fp1 g = some .vec) n0 (⟨growH nh q, ks.take i, ks.drop (i + 1)⟩ :: fs) ks[i] := by
          refine Way.kid (by rw [← hks]; exact w38) ?_
          rw [PN.pt_eq] at gin
          exact gin
        have hlt := kid_lt (h := nh) hi
        have hat : At (some ⟨ks[i].b, 0, none⟩) u111 ks[i].heads.length := ⟨_, _, rfl, hw, rfl⟩
        refine ⟨⟨_, hat⟩, ?_⟩
        have := least_le hat
        show least (At _ u111) < least (At _ u34)
        rw [hfe]
        omega

end Go.Proofs.YtncninpdlpemgaaGreat.Kd

/- VcLawF -/
namespace Go.Proofs.YtncninpdlpemgaaGreat

/-- The regions of a search of all rows. -/
def restOf (a b c : Sl) (rest : List Rw) : List Rgn := if rest = [] then [] else [⟨2, a, b, 0, c, boxLo rest, boxHi rest, sortI (rest.map (·.id))⟩]

theorem AnsAt.own {u0 u : H} {sh ss sr : Sl} {hits : List Hit} {seen : List Int} {rest : List Rw} (h : AnsAt u0 u sh ss sr hits seen rest) : ∃ a b c : Sl, AnsO u0 u sh ss sr hits seen (restOf a b c rest) := by
  rcases h.r with ⟨he, rfl⟩ | ⟨hne, _, a, b, c, h1, h2, h3, h4, n1, n2, n3, f1, f2⟩
  · refine ⟨⟨none, 0, 0⟩, ⟨none, 0, 0⟩, ⟨none, 0, 0⟩, ?_⟩
    rw [restOf, if_pos he]
    refine ⟨h.h, h.s, OwnF.nil h.h.le _ _, fun r hr => (by cases hr), ?_⟩
    simp only [ansS, List.flatMap_nil]
    refine List.pairwise_cons.2 ⟨fun t ht => ?_, List.pairwise_cons.2 ⟨fun t ht => ?_, List.pairwise_singleton _ _⟩⟩
    · rcases List.mem_cons.1 ht with rfl | ht
      · exact h.hs
      · obtain rfl : t = _ := by simpa using ht
        intro g _ hg; simp [Sl.blk] at hg
    · obtain rfl : t = _ := by simpa using ht
      intro g _ hg; simp [Sl.blk] at hg
  · refine ⟨a, b, c, ?_⟩
    rw [restOf, if_neg hne]
    have e : ([⟨2, a, b, 0, c, boxLo rest, boxHi rest, sortI (rest.map (·.id))⟩] : List Rgn).flatMap encG = [.int .i64 2, .slice a.a a.n a.c, .slice b.a b.n b.c, .int .u64 0, .int .u64 0, .slice c.a c.n c.c] := by
      simp [encG, hiW0, loW0]
    refine ⟨h.h, h.s, by rw [e]; exact h1, fun r hr => ?_, ?_⟩
    · obtain rfl : r = _ := by simpa using hr
      exact ⟨h2, h3, h4⟩
    · have far1 : ∀ x ∈ [a, b, c], Far sh x ∧ Far ss x ∧ Far sr x := fun x hx => ⟨fun g h1' h2' => (f1 x hx g h2').1 h1', fun g h1' h2' => (f1 x hx g h2').2.1 h1', fun g h1' h2' => (f1 x hx g h2').2.2 h1'⟩
      have ne : ∀ {x y : Sl}, x.blk ≠ y.blk → Far x y := fun hn g hx hy => hn (by rw [hx, hy])
      simp only [ansS, List.flatMap_cons, List.flatMap_nil, List.append_nil, Rgn.sls]
      refine List.pairwise_cons.2 ⟨fun t ht => ?_, List.pairwise_cons.2 ⟨fun t ht => ?_, List.pairwise_cons.2 ⟨fun t ht => (far1 t ht).2.2, List.pairwise_cons.2 ⟨fun t ht => ?_, List.pairwise_cons.2 ⟨fun t ht => ?_, List.pairwise_singleton _ _⟩⟩⟩⟩⟩
      · rcases List.mem_cons.1 ht with rfl | ht
        · exact h.hs
        · rcases List.mem_cons.1 ht with rfl | ht
          · exact fun g hg hg2 => (f2 g hg2).1 hg
          · exact (far1 t ht).1
      · rcases List.mem_cons.1 ht with rfl | ht
        · exact fun g hg hg2 => (f2 g hg2).2 hg
        · exact (far1 t ht).2.1
      · rcases List.mem_cons.1 ht with rfl | ht
        · exact ne n1
        · obtain rfl : t = c := by simpa using ht
          exact ne n2
      · obtain rfl : t = c := by simpa using ht
        exact ne n3

theorem AnsR.nil (u : H) : AnsR u ⟨none, 0, 0⟩ ⟨none, 0, 0⟩ ⟨none, 0, 0⟩ [] [] [] :=
  ⟨(OwnF.nil (H.le.refl u) 0 3).own.seg, Ints.nil u, (OwnF.nil (H.le.refl u) 0 6).own.seg, fun r hr => by cases hr⟩

end Go.Proofs.YtncninpdlpemgaaGreat

/- VcOwn2 -/
namespace Go.Proofs.YtncninpdlpemgaaGreat

end Go.Proofs.YtncninpdlpemgaaGreat

/- VcTable -/
namespace Go.Proofs.YtncninpdlpemgaaGreat

/-- A table in block n. -/
structure TabAt (u : H) (n : Nat) (dim : Int) (L : List Rw) : Prop where
  ex : ∃ (s : Sl) (v : H), u n = some (.cells #[.int .i64 dim, .slice s.a s.n s.c] 79 (0, 0)) ∧ v.le u ∧ v n = none ∧ Rws v s L
  srt : L.Pairwise fun a b => a.id < b.id

theorem TabAt.keep {u u' : H} {n : Nat} {dim : Int} {L : List Rw} (h : TabAt u n dim L) (hu : u.le u') : TabAt u' n dim L := by
  obtain ⟨s, v, h1, h2, h3, h4⟩ := h.ex
  exact ⟨⟨s, v, hu _ _ h1, h2.trans hu, h3, h4⟩, h.srt⟩

abbrev Pr := Int × List Int

theorem Rws.nil (u : H) : Rws u ⟨none, 0, 0⟩ [] := ⟨⟨rfl, Nat.le_refl _, by decide, .inl rfl⟩, fun _ h => by cases h⟩

end Go.Proofs.YtncninpdlpemgaaGreat

/- VcTable2 -/
namespace Go.Proofs.YtncninpdlpemgaaGreat

/-- Rising rows are told by what they are alone. -/
theorem pr_rise_eq {P Q : List Pr} (hp : P.Pairwise fun a b => a.1 < b.1) (hq : Q.Pairwise fun a b => a.1 < b.1) (h : P.Perm Q) : P = Q := by
  induction P generalizing Q with
  | nil => exact (List.eq_nil_of_length_eq_zero (by have := h.length_eq; simpa using this.symm)).symm
  | cons p P ih =>
    cases Q with
    | nil => have := h.length_eq; simp at this
    | cons q Q =>
      obtain ⟨h1, h2⟩ := List.pairwise_cons.1 hp
      obtain ⟨h3, h4⟩ := List.pairwise_cons.1 hq
      have e : p = q := by
        have hpq : p ∈ q :: Q := h.mem_iff.1 (.head _)
        have hqp : q ∈ p :: P := h.mem_iff.2 (.head _)
        rcases List.mem_cons.1 hpq with h5 | h5
        · exact h5
        · rcases List.mem_cons.1 hqp with h6 | h6
          · exact h6.symm
          · have := h3 p h5; have := h1 q h6; omega
      subst e
      rw [ih h2 h4 ((List.perm_cons p).1 h)]

theorem TabAt.rise {u : H} {n : Nat} {dim : Int} {L : List Rw} (h : TabAt u n dim L) : (L.map Rw.pr).Pairwise fun a b => a.1 < b.1 := List.pairwise_map.2 h.srt

theorem ids_pr (L : List Rw) : L.map (·.id) = (L.map Rw.pr).map (·.1) := by rw [List.map_map]; rfl

end Go.Proofs.YtncninpdlpemgaaGreat

/- VcIxKd -/
namespace Go.Proofs.YtncninpdlpemgaaGreat

abbrev Tr := Kd.Tr
abbrev ixRows (X : Tr) : List Pr := Kd.ixRows X
noncomputable abbrev ixH (X : Tr) (q : List Int) (k bud : Int) : List Hit := Kd.ixH X q k bud
noncomputable abbrev ixS (X : Tr) (q : List Int) (k bud : Int) : List Int := Kd.ixS X q k bud
noncomputable abbrev ixR (X : Tr) (q : List Int) (k bud : Int) : List (Int × Int × List Int × List Int × List Int) := Kd.ixR X q k bud
abbrev ixErr (l : List Rw) (dim A _B : Int) : Int := Kd.ixErr l dim A

/-- The puts since it was built, at most. -/
def ixGas (X : Tr) : Nat := X.gas

/-- No table is needed. -/
def TabU (_ : H) : Prop := True

theorem TabU.mono {u u' : H} (_ : TabU u) (_ : u.le u') : TabU u' := trivial

/-- An index in memory: D: the blocks that are its own, all made behind u0. -/
abbrev Ix (u0 u : H) (D : Nat → Prop) (b : Nat) (X : Tr) : Prop := IxG Kd.TrAt Kd.TOk u0 u D b X

theorem Ix.base {u0 u : H} {D : Nat → Prop} {b : Nat} {X : Tr} (h : Ix u0 u D b X) : u0.le u ∧ (∀ c, D c → u0 c = none) ∧ ∀ c, D c → u c ≠ none := IxG.base h
theorem Ix.same {u0 u u' : H} {D : Nat → Prop} {b : Nat} {X : Tr} (h : Ix u0 u D b X) (hu : ∀ c o, u c = some o → D c → u' c = some o) (hle : u0.le u') : Ix u0 u' D b X := IxG.same Kd.keep h hu hle
theorem Ix.mono {u0 u u' : H} {D : Nat → Prop} {b : Nat} {X : Tr} (h : Ix u0 u D b X) (hu : u.le u') : Ix u0 u' D b X := IxG.mono Kd.keep h hu
theorem Ix.rebase {u0 u v : H} {D : Nat → Prop} {b : Nat} {X : Tr} (h : Ix u0 u D b X) (hv : v.le u0) : Ix v u D b X := IxG.rebase h hv

theorem Ix.rowsOk {u0 u : H} {D : Nat → Prop} {b : Nat} {X : Tr} (h : Ix u0 u D b X) : ((ixRows X).map (·.1)).Nodup := by
  obtain ⟨fp, _, h2, _⟩ := IxG.ex h
  exact h2.tr.wnodup

theorem spec.ix_Len {u0 u : H} {D : Nat → Prop} {b : Nat} {X : Tr} {K : Int → H → Prop} (h : Ix u0 u D b X) (hK : K (ixRows X).length u) : C.kdtree_Tree__Len (some ⟨b, 0, none⟩) u K := by
  obtain ⟨fp, _, h2, _⟩ := IxG.ex h
  exact Kd.spec.Len h2 hK

theorem spec.ix_Put0 {u0 u : H} {D : Nat → Prop} {b : Nat} {X : Tr} {id : Int} {t : Sl} {q : List Int} {K : Bool → Int → H → Prop} (h : Ix u0 u D b X) (hgas : ixGas X ≤ 2700) (ht : Ints u t q) (hts : ∀ (fp : Nat → Option Kd.Tg) u1 (fp1 : Nat → Option Kd.Tg), (∀ c, D c ↔ fp c ≠ none) → u0.le u1 → TurnG u fp u1 fp1 → Ints u1 t q)
    (hbad : mayErr id q X.dim (decide (id ∈ (ixRows X).map (·.1))) (ixRows X).length ≠ 0 → K false (mayErr id q X.dim (decide (id ∈ (ixRows X).map (·.1))) (ixRows X).length) u)
    (hok : mayErr id q X.dim (decide (id ∈ (ixRows X).map (·.1))) (ixRows X).length = 0 → ∀ u' D' X', Ix u0 u' D' b X' → IxTurn u D u' D' → (ixRows X').Perm ((id, q) :: (ixRows X).filter fun x => x.1 != id) → X'.dim = X.dim → X'.links = X.links → ixGas X' ≤ ixGas X + 1 → K (decide (id ∉ (ixRows X).map (·.1))) 0 u') :
    C.kdtree_Tree__Put (some ⟨b, 0, none⟩) id t u K := by
  obtain ⟨fp, h1, h2, h3⟩ := IxG.ex h
  exact Kd.spec.Put h2 h3 (Nat.le_trans hgas (by decide)) ht (fun u1 fp1 hle ht1 => hts fp u1 fp1 h1 hle ht1) hbad fun he u' fp' T' hr => hok he u' _ T' (ixg_of hr.is hr.ok) (turn_ixg h1 hr.turn) hr.rows hr.dim hr.leaf hr.gas

theorem spec.ix_Put {u0 u : H} {D : Nat → Prop} {b : Nat} {X : Tr} {id : Int} {t : Sl} {q : List Int} {K : Bool → Int → H → Prop} (h : Ix u0 u D b X) (hgas : ixGas X ≤ 2700) (_ : TabU u0) (ht : Ints u t q) (hts : ∀ g, t.blk = some g → ¬ D g)
    (hbad : mayErr id q X.dim (decide (id ∈ (ixRows X).map (·.1))) (ixRows X).length ≠ 0 → K false (mayErr id q X.dim (decide (id ∈ (ixRows X).map (·.1))) (ixRows X).length) u)
    (hok : mayErr id q X.dim (decide (id ∈ (ixRows X).map (·.1))) (ixRows X).length = 0 → ∀ u' D' X', Ix u0 u' D' b X' → IxTurn u D u' D' → (ixRows X').Perm ((id, q) :: (ixRows X).filter fun x => x.1 != id) → X'.dim = X.dim → X'.links = X.links → ixGas X' ≤ ixGas X + 1 → K (decide (id ∉ (ixRows X).map (·.1))) 0 u') :
    C.kdtree_Tree__Put (some ⟨b, 0, none⟩) id t u K :=
  spec.ix_Put0 h hgas ht (fun fp u1 fp1 h1 _ ht1 => Seg.else ht fun g o hg ho => ht1.keep g o ho (by
    cases e : fp g with
    | none => rfl
    | some x => exact absurd ((h1 g).2 (by rw [e]; simp)) (hts g hg))) hbad hok

theorem spec.ix_PutB {u0 u : H} {D : Nat → Prop} {b : Nat} {X : Tr} {id : Int} {t : Sl} {q : List Int} {K : Bool → Int → H → Prop} (h : Ix u0 u D b X) (hgas : ixGas X ≤ 2700) (_ : TabU u0) (ht : Ints u0 t q)
    (hbad : mayErr id q X.dim (decide (id ∈ (ixRows X).map (·.1))) (ixRows X).length ≠ 0 → K false (mayErr id q X.dim (decide (id ∈ (ixRows X).map (·.1))) (ixRows X).length) u)
    (hok : mayErr id q X.dim (decide (id ∈ (ixRows X).map (·.1))) (ixRows X).length = 0 → ∀ u' D' X', Ix u0 u' D' b X' → IxTurn u D u' D' → (ixRows X').Perm ((id, q) :: (ixRows X).filter fun x => x.1 != id) → X'.dim = X.dim → X'.links = X.links → ixGas X' ≤ ixGas X + 1 → K (decide (id ∉ (ixRows X).map (·.1))) 0 u') :
    C.kdtree_Tree__Put (some ⟨b, 0, none⟩) id t u K :=
  spec.ix_Put0 h hgas (ht.mono (IxG.base h).1) (fun _ _ _ _ hle _ => ht.mono hle) hbad hok

theorem spec.ix_Delete {u0 u : H} {D : Nat → Prop} {b : Nat} {X : Tr} {id : Int} {K : Bool → Int → H → Prop} (h : Ix u0 u D b X) (hgas : ixGas X ≤ 2700) (hno : id ∉ (ixRows X).map (·.1) → ∀ u', u.le u' → K false 0 u')
    (hyes : id ∈ (ixRows X).map (·.1) → ∀ u' D' X', Ix u0 u' D' b X' → IxTurn u D u' D' → ixRows X' = (ixRows X).filter (fun x => x.1 != id) → X'.dim = X.dim → X'.links = X.links → ixGas X' ≤ ixGas X → K true 0 u') : C.kdtree_Tree__Delete (some ⟨b, 0, none⟩) id u K := by
  obtain ⟨fp, h1, h2, h3⟩ := IxG.ex h
  have hw : id ∈ X.w.map (·.1) ↔ id ∈ (ixRows X).map (·.1) := by rw [show ixRows X = Kd.ixRows X from rfl, Kd.keys_ix]
  exact Kd.spec.Delete h2 h3 (Nat.le_trans hgas (by decide)) (fun hn => hno fun hm => hn (hw.2 hm)) fun hn u' fp' T' hr => hyes (hw.1 hn) u' _ T' (ixg_of hr.is hr.ok) (turn_ixg h1 hr.turn) hr.rows hr.dim hr.leaf (Nat.le_of_eq hr.gas)

theorem spec.ix_Rows {u0 u : H} {D : Nat → Prop} {b : Nat} {X : Tr} {K : Sl → H → Prop} (h : Ix u0 u D b X) (hK : ∀ s ls u', RowsO u u' s ls → (ls.map Rw.pr).Perm (ixRows X) → (ls.Pairwise fun a b => a.id ≤ b.id) → K s u') : C.kdtree_Tree__Rows (some ⟨b, 0, none⟩) u K := by
  obtain ⟨fp, _, h2, h3⟩ := IxG.ex h
  exact Kd.spec.Rows h2 h3 hK

theorem spec.ix_Build {s : Sl} {l : List Rw} {dim A B seed : Int} {u : H} {K : Option Addr → Int → H → Prop} (hs : Rws u s l) (_ : TabU u) (_ : U64 seed)
    (hbad : ixErr l dim A B ≠ 0 → K none (ixErr l dim A B) u) (hok : ixErr l dim A B = 0 → ∀ b D X u', Ix u u' D b X → (ixRows X).Perm (l.map Rw.pr) → X.dim = dim → X.links = A → ixGas X = 0 → K (some ⟨b, 0, none⟩) 0 u') : C.theodolitelaw07_build s dim A B seed u K := by
  apply vc.theodolitelaw07_build
  exact Kd.spec.Build hs hbad fun he u' b _ T hr => hok he b _ T u' (ixg_of hr.is hr.ok) hr.rows hr.dim hr.leaf hr.gas

theorem spec.ix_Search {u0 u : H} {D : Nat → Prop} {b : Nat} {X : Tr} {t : Sl} {q : List Int} {k bud : Int} {K : Sl → Sl → Sl → Int → H → Prop} (h : Ix u0 u D b X) (hgas : ixGas X ≤ 2700) (ht : Ints u t q)
    (hbad : askErr q X.dim k bud ≠ 0 → ∀ u', u.le u' → K ⟨none, 0, 0⟩ ⟨none, 0, 0⟩ ⟨none, 0, 0⟩ (askErr q X.dim k bud) u')
    (hok : askErr q X.dim k bud = 0 → ∀ sh ss sr rest u', AnsO u u' sh ss sr (ixH X q k bud) (ixS X q k bud) rest → rest.map Rgn.core = ixR X q k bud → K sh ss sr 0 u') : C.kdtree_Tree__Search (some ⟨b, 0, none⟩) t k bud u K := by
  obtain ⟨fp, _, h2, h3⟩ := IxG.ex h
  exact Kd.spec.Search h2 h3 hgas ht (fun hne => hbad hne u (H.le.refl u)) hok

theorem ix_sound3 {u0 u : H} {D : Nat → Prop} {b : Nat} {X : Tr} (h : Ix u0 u D b X) {q : List Int} {k bud : Int} (he : askErr q X.dim k bud = 0) {L : List Rw} (hL : (L.map Rw.pr).Perm (ixRows X)) (hq : Qok L q) {rest : List Rgn} (hr : rest.map Rgn.core = ixR X q k bud) :
    Sound L q k (ixH X q k bud) (ixS X q k bud) rest ∧ ((ixS X q k bud).length : Int) ≤ bud ∧ (((ixS X q k bud).length : Int) = bud ∨ (ixS X q k bud).length = L.length ∨ CertA q k (ixH X q k bud) rest) := by
  obtain ⟨fp, _, h2, h3⟩ := IxG.ex h
  obtain ⟨hv, k1, _, b0, _⟩ := askErr_ok.1 he
  exact Kd.tree_sound h3 k1 b0 (vcheck_ok hv).2.2.1 hL hq hr

theorem ix_rok {u0 u : H} {D : Nat → Prop} {b : Nat} {X : Tr} (h : Ix u0 u D b X) (hf : (ixRows X).length ≤ 512) {L : List Rw} (hp : (L.map Rw.pr).Perm (ixRows X)) : Rok L X.dim := by
  obtain ⟨fp, _, h2, h3⟩ := IxG.ex h
  have hn := hp.length_eq
  rw [List.length_map] at hn
  refine rok_pr h3.dm (by omega) ?_ fun p hp' => ?_
  · rw [ids_pr, (hp.map (·.1)).nodup_iff]
    exact Ix.rowsOk h
  · obtain ⟨e, he, rfl⟩ := List.mem_map.1 (hp.mem_iff.1 hp')
    exact ⟨(h3.ids e he).1, (h3.ids e he).2, h3.vec e he⟩

theorem ixErr_rok {l : List Rw} {d A B : Int} (h : ixErr l d A B = 0) : Rok l d := by
  unfold ixErr Kd.ixErr at h
  split at h
  · rename_i h1; exact absurd h h1
  · rename_i h1
    exact rcheck_ok.1 (Classical.not_not.1 h1)

end Go.Proofs.YtncninpdlpemgaaGreat

/- VcLawT1 -/
namespace Go.Proofs.YtncninpdlpemgaaGreat

structure Cll where
  kind : Int
  id : Int
  k : Int
  bud : Int
  rid : Int
  rv : Sl
  v : List Int
  qs : Sl
  q : List Int

def encO (o : Cll) : List Value := [.int .i64 o.kind, .int .i64 o.id, .int .i64 o.k, .int .i64 o.bud, .int .i64 o.rid, .slice o.rv.a o.rv.n o.rv.c, .slice o.qs.a o.qs.n o.qs.c]
theorem encO_len (o : Cll) : (encO o).length = 7 := rfl
theorem encO_one (o : Cll) : ∀ v ∈ encO o, v.oneCell' = true := by simp [encO, Value.oneCell']

/-- Calls in memory. -/
def Ops (u : H) (s : Sl) (l : List Cll) : Prop := Seg u s 7 (l.flatMap encO) ∧ ∀ o ∈ l, Ints u o.rv o.v ∧ Ints u o.qs o.q

theorem Ops.len {u : H} {s : Sl} {l : List Cll} (h : Ops u s l) : s.n = l.length := flat_n encO_len (by decide) h.1
theorem Ops.max {u : H} {s : Sl} {l : List Cll} (h : Ops u s l) : s.n ≤ 9223372036854775807 := Nat.le_trans (Seg.cap h.1) (Seg.max h.1)
theorem Ops.mono {u u' : H} {s : Sl} {l : List Cll} (h : Ops u s l) (k : u.le u') : Ops u' s l := ⟨h.1.mono k, fun o ho => ⟨(h.2 o ho).1.mono k, (h.2 o ho).2.mono k⟩⟩
theorem Ops.nil (u : H) : Ops u ⟨none, 0, 0⟩ [] := ⟨⟨rfl, Nat.le_refl _, by decide, .inl rfl⟩, fun _ h => by cases h⟩

theorem Ops.at {u : H} {s : Sl} {l : List Cll} (h : Ops u s l) {x : Int} (h0 : 0 ≤ x) (h1 : x < (s.n : Int)) : ∃ p, s.a = some p ∧ ∃ o : Cll, l[x.toNat]? = some o ∧ o ∈ l ∧ u.cell? (p.add (x.toNat * 7)) = some (.int .i64 o.kind) ∧ u.cell? ((p.add (x.toNat * 7)).add 1) = some (.int .i64 o.id) ∧
    u.cell? ((p.add (x.toNat * 7)).add 2) = some (.int .i64 o.k) ∧ u.cell? ((p.add (x.toNat * 7)).add 3) = some (.int .i64 o.bud) ∧ u.cell? ((p.add (x.toNat * 7)).add 4) = some (.int .i64 o.rid) ∧
    u.cell? ((p.add (x.toNat * 7)).add 5) = some (.slice o.rv.a o.rv.n o.rv.c) ∧ u.cell? ((p.add (x.toNat * 7)).add 6) = some (.slice o.qs.a o.qs.n o.qs.c) ∧ Ints u o.rv o.v ∧ Ints u o.qs o.q := by
  have hn := h.len
  have hlt : x.toNat < l.length := by omega
  have hx : l[x.toNat]? = some l[x.toNat] := List.getElem?_eq_getElem hlt
  obtain ⟨p, hp, hc⟩ := Seg.elem encO_len (by decide) h.1 hx
  have h0' := hc 0 _ rfl
  rw [Addr.add_zero'] at h0'
  have hm := List.getElem_mem hlt
  exact ⟨p, hp, _, hx, hm, h0', hc 1 _ rfl, hc 2 _ rfl, hc 3 _ rfl, hc 4 _ rfl, hc 5 _ rfl, hc 6 _ rfl, (h.2 _ hm).1, (h.2 _ hm).2⟩

/-- What comes in: rows, calls. -/
structure Come2 (u : H) (s t : Sl) (l : List Rw) (ops : List Cll) : Prop where
  rows : Rws u s l
  calls : Ops u t ops
  small : ∀ r ∈ l, r.v.length ≤ 17592186044416
  sn : s.n ≤ 17592186044416
  smallO : ∀ o ∈ ops, o.v.length ≤ 17592186044416 ∧ o.q.length ≤ 17592186044416
  tn : t.n ≤ 17592186044416

theorem spec.theodolitelaw07_big {s t : Sl} {l : List Rw} {ops : List Cll} {u : H} {K : Bool → H → Prop} (hc : Come2 u s t l ops) (h1 : K true u)
    (h2 : l.length ≤ 2000 → ops.length ≤ 2000 → (∀ r ∈ l, r.v.length ≤ 32768) → (∀ o ∈ ops, o.v.length ≤ 32768 ∧ o.q.length ≤ 32768) → K false u) : C.theodolitelaw07_big s t u K := by
  have hsn := hc.rows.len
  have htn := hc.calls.len
  apply vc.theodolitelaw07_big
  intro K0 hK0
  refine ⟨fun _ => h1, fun ht => ⟨fun _ => h1, fun hs => spec.theodolitekeep_Vectors' hc.rows hc.small hc.sn (by omega) fun x hx => ⟨fun _ => h1, fun hx' => hK0 _ _ ?_⟩⟩⟩
  have hv : ∀ r ∈ l, r.v.length ≤ 32768 := fun r hr => by have := hx (by omega) r hr; omega
  have fin : ∀ n : Int, (n ≤ 32768 → ∀ o ∈ ops, o.v.length ≤ 32768 ∧ o.q.length ≤ 32768) → ∀ bb : Bool, (bb = true ↔ 32768 < n) → K bb u := fun n hn bb hb => by
    cases bb with
    | true => exact h1
    | false => exact h2 (by omega) (by omega) hv (hn (by
        by_cases e : 32768 < n
        · have := hb.2 e; cases this
        · omega))
  refine ⟨fun n i w => w = u ∧ 0 ≤ i ∧ i ≤ ops.length ∧ 0 ≤ n ∧ ∀ o ∈ ops.take i.toNat, (o.v.length : Int) ≤ n ∧ (o.q.length : Int) ≤ n, fun _ i _ => ops.length - i.toNat, ⟨rfl, by omega, by omega, by omega, fun o ho => by simp at ho⟩, ?_⟩
  rintro n i w ⟨rfl, i0, i1, n0, hacc⟩
  intro K8 hK8
  refine ⟨fun hil => ⟨fun hn => hK8 _ ?_, fun hn => fin n (fun h => absurd h hn) _ (by simp)⟩, fun hig => fin n (fun hn o ho => ?_) _ (by simp)⟩
  · obtain ⟨p, hp, o, ho, hom, c0, c1, c2, c3, c4, c5, c6, hv1, hv2⟩ := hc.calls.at i0 hil
    have l1 := hv1.len
    have l2 := hv2.len
    obtain ⟨s1, s2⟩ := hc.smallO o hom
    refine ⟨p, hp, ⟨i0, hil⟩, p, hp, ⟨i0, hil⟩, _, by rw [Addr.add_add']; exact c5, ⟨by omega, by omega⟩, _, c6, ⟨by omega, by omega⟩, ⟨by omega, by omega⟩, ⟨rfl, by omega, by omega, by omega, fun o' ho' => ?_⟩, by dsimp only; omega⟩
    rw [show (i + 1).toNat = i.toNat + 1 by omega, List.take_add_one, ho] at ho'
    rcases List.mem_append.1 ho' with h' | h'
    · have := hacc o' h'; omega
    · simp at h'; subst h'; omega
  · have hi : i.toNat = ops.length := by
      have : ¬ i < (t.n : Int) := hig
      omega
    rw [hi, List.take_length] at hacc
    have := hacc o ho
    omega

theorem build_rows4' (a b c d : Sl) : buildOf Tryz.prog 22 4 #[(0, .agg #[.int .i64 1, .slice a.a a.n a.c]), (1, .agg #[.int .i64 2, .slice b.a b.n b.c]), (2, .agg #[.int .i64 3, .slice c.a c.n c.c]), (3, .agg #[.int .i64 4, .slice d.a d.n d.c])] =
    some (43, [.int .i64 1, .slice a.a a.n a.c, .int .i64 2, .slice b.a b.n b.c, .int .i64 3, .slice c.a c.n c.c, .int .i64 4, .slice d.a d.n d.c]) := by kernel_rfl

def exT (a b c d : Sl) : List Rw := [⟨1, a, [0, 0]⟩, ⟨2, b, [3, 4]⟩, ⟨3, c, [0, 1]⟩, ⟨4, d, [30, 40]⟩]

theorem spec.theodolitelaw07_rows {u : H} {K : Sl → H → Prop} (h : ∀ s u' a b c d, u.le u' → Rws u' s (exT a b c d) → K s u') : C.theodolitelaw07_rows u K := by
  apply vc.theodolitelaw07_rows
  refine sem_build (build_ints2 _ _) fun g1 h1 => sem_build (build_ints2 _ _) fun g2 h2 => sem_build (build_ints2 _ _) fun g3 h3 => sem_build (build_ints2 _ _) fun g4 h4 => sem_build (build_rows4' _ _ _ _) fun g5 h5 => ?_
  have i1 := ints_made (H.le.refl u) h1 [0, 0] 3 (by simp)
  have i2 := ints_made (H.le.refl _) h2 [3, 4] 3 (by simp)
  have i3 := ints_made (H.le.refl _) h3 [0, 1] 3 (by simp)
  have i4 := ints_made (H.le.refl _) h4 [30, 40] 3 (by simp)
  have l1 := H.le_ins (u := u) (b := g1) (.cells [Value.int .i64 0, .int .i64 0].toArray 3 (0, 0)) h1
  have l2 := H.le_ins (b := g2) (.cells [Value.int .i64 3, .int .i64 4].toArray 3 (0, 0)) h2
  have l3 := H.le_ins (b := g3) (.cells [Value.int .i64 0, .int .i64 1].toArray 3 (0, 0)) h3
  have l4 := H.le_ins (b := g4) (.cells [Value.int .i64 30, .int .i64 40].toArray 3 (0, 0)) h4
  have m := OwnF.make (k := 2) (H.le.refl _) h5 (cells := [Value.int .i64 1, .slice (some ⟨g1, 0, none⟩) 2 2, .int .i64 2, .slice (some ⟨g2, 0, none⟩) 2 2, .int .i64 3, .slice (some ⟨g3, 0, none⟩) 2 2, .int .i64 4, .slice (some ⟨g4, 0, none⟩) 2 2].toArray) (e := 43) (n := 4) (by omega) rfl
  refine h _ _ ⟨some ⟨g1, 0, none⟩, 2, 2⟩ ⟨some ⟨g2, 0, none⟩, 2, 2⟩ ⟨some ⟨g3, 0, none⟩, 2, 2⟩ ⟨some ⟨g4, 0, none⟩, 2, 2⟩ ?_ ⟨m.own.seg, ?_⟩
  · exact (((l1.trans l2).trans l3).trans l4).trans m.le
  · intro r hr
    simp only [exT, List.mem_cons, List.not_mem_nil, or_false] at hr
    rcases hr with rfl | rfl | rfl | rfl
    · exact i1.mono (((l2.trans l3).trans l4).trans m.le)
    · exact i2.mono ((l3.trans l4).trans m.le)
    · exact i3.mono (l4.trans m.le)
    · exact i4.mono m.le

theorem exT_q (a b c d : Sl) : Qok (exT a b c d) [0, 0] := asked_ok.1 (by kernel_rfl)
theorem exT_top (a b c d : Sl) : topk 2 ((exT a b c d).map (hitOf [0, 0])) = [(1, 0), (3, 1)] := by kernel_rfl
theorem exT_build (a b c d : Sl) : ixErr (exT a b c d) 2 1 0 = 0 := by kernel_rfl

def mkL (P : List Pr) : List Rw := P.map fun p => ⟨p.1, ⟨none, 0, 0⟩, p.2⟩
theorem mkL_pr (P : List Pr) : (mkL P).map Rw.pr = P := by
  unfold mkL
  rw [List.map_map]
  exact List.map_id' _

/-- With a budget for all a search tells the first k. -/
theorem ix_enough {u0 u : H} {D : Nat → Prop} {b : Nat} {X : Tr} (h : Ix u0 u D b X) {q : List Int} {k bud : Int} (he : askErr q X.dim k bud = 0) {L : List Rw} (hL : (L.map Rw.pr).Perm (ixRows X)) (hqok : Qok L q) (hb : (L.length : Int) ≤ bud) :
    ixH X q k bud = topk k.toNat (L.map (hitOf q)) ∧ (ixS X q k bud).length ≤ (ixRows X).length := by
  obtain ⟨hv, k1, k2, _, _⟩ := askErr_ok.1 he
  have hlen := hL.length_eq
  rw [List.length_map] at hlen
  obtain ⟨hS, h1, h2⟩ := ix_sound3 h he hL hqok (rgnOf_core (ixR X q k bud))
  have hal := hS.all.length_eq
  rw [List.length_append, List.length_map] at hal
  refine ⟨hS.certain hqok k1 ?_, by omega⟩
  have seenAll : (ixS X q k bud).length = L.length → CertA q k (ixH X q k bud) ((ixR X q k bud).map rgnOf) := fun h2 => by
    left
    generalize (ixR X q k bud).map rgnOf = rest at *
    cases rest with
    | nil => rfl
    | cons r rs =>
      have h3 := (hS.reg r (List.mem_cons_self ..)).2.1
      have h4 := List.length_pos_iff.2 h3
      rw [List.flatMap_cons, List.length_append] at hal
      omega
  rcases h2 with h2 | h2 | h2
  · exact seenAll (by omega)
  · exact seenAll h2
  · exact h2

theorem spec.theodolitelaw07_awake {u : H} {K : Bool → H → Prop} (hTab : TabU u) (h : ∀ u', u.le u' → K true u') : C.theodolitelaw07_awake u K := by
  apply vc.theodolitelaw07_awake
  have q0 : ∀ {w : H} {g : Nat} (hg : w g = none) (x y : Int), Ints (w.ins g (.cells [Value.int .i64 x, .int .i64 y].toArray 3 (0, 0))) ⟨some ⟨g, 0, none⟩, 2, 2⟩ [x, y] := fun {w g} hg x y => ints_made (H.le.refl w) hg [x, y] 3 (by simp)
  refine spec.theodolitelaw07_rows fun s0 u1 a b c d l1 r1 => ?_
  refine spec.ix_Build r1 (hTab.mono l1) ⟨by decide, by decide⟩ (fun hne => absurd (exT_build a b c d) hne) fun _ bt D X u4 hX hrows hdim hlinks hg0 => ?_
  have hlen : (ixRows X).length = 4 := by have := hrows.length_eq; simpa [exT] using this
  intro K5 hK5
  refine ⟨fun e => (by cases e), fun _ => ⟨fun e => absurd rfl e, fun _ => spec.ix_Len hX ⟨fun hne => absurd (by rw [hlen]; rfl) hne, fun _ => hK5 _ _ ?_⟩⟩⟩
  clear hK5 K5
  -- a search
  refine sem_build (build_ints2 0 0) fun g1 h1 => ?_
  have m1 := H.le_ins (u := u4) (b := g1) (.cells [Value.int .i64 0, .int .i64 0].toArray 3 (0, 0)) h1
  have hask : askErr [0, 0] X.dim 2 4 = 0 := by rw [hdim]; decide
  refine spec.ix_Search (hX.mono m1) (by omega) (q0 h1 0 0) (fun hne => absurd hask hne) fun _ s10 s11 s12 rest u14 ha hcore => ?_
  have hhits := (ix_enough hX hask (L := exT a b c d) hrows.symm (exT_q a b c d) (Int.le_refl _)).1
  have e2 : topk (Int.toNat 2) ((exT a b c d).map (hitOf [0, 0])) = [(1, 0), (3, 1)] := exT_top a b c d
  rw [e2] at hhits
  have hoh := ha.h
  rw [hhits] at hoh
  have hX14 := hX.mono (m1.trans ha.le)
  have hD10 : ∀ g, s10.blk = some g → ¬ D g := fun g hg hd => by
    have := ha.h.fresh g hg
    obtain ⟨o, ho⟩ := Option.ne_none_iff_exists'.1 (hX.base.2.2 g hd)
    rw [m1 _ _ ho] at this; cases this
  have hk10 : ∀ g, s10.blk = some g → ∃ o, u14 g = some o := fun g hg => Option.ne_none_iff_exists'.1 (own_known ha.h hg)
  clear hhits hcore ha
  -- puts and a deletion
  refine sem_build (build_ints2 9 9) fun g2 h2 => ?_
  have m2 := H.le_ins (u := u14) (b := g2) (.cells [Value.int .i64 9, .int .i64 9].toArray 3 (0, 0)) h2
  have hid : ∀ x, x ∈ (ixRows X).map (·.1) ↔ x ∈ ([1, 2, 3, 4] : List Int) := fun x => (hrows.map (·.1)).mem_iff
  have t3 : decide ((3 : Int) ∈ (ixRows X).map (·.1)) = true := decide_eq_true ((hid 3).2 (by decide))
  have t3' : decide ((3 : Int) ∉ (ixRows X).map (·.1)) = false := decide_eq_false fun h => h ((hid 3).2 (by decide))
  have hm3 : mayErr 3 [9, 9] X.dim (decide ((3 : Int) ∈ (ixRows X).map (·.1))) (ixRows X).length = 0 := by rw [t3, hdim, hlen]; decide
  have hDn : ∀ {z : H} {g : Nat}, (∀ c, D c → z c ≠ none) → z g = none → ∀ g', (⟨some ⟨g, 0, none⟩, 2, 2⟩ : Sl).blk = some g' → ¬ D g' := fun {z g} hz hg g' hg' hd => by
    have : g = g' := by simpa [Sl.blk] using hg'
    exact hz g' hd (by rw [← this]; exact hg)
  refine spec.ix_Put (hX14.mono m2) (by omega) (hTab.mono l1) (q0 h2 9 9) (hDn hX14.base.2.2 h2) (fun hne => absurd hm3 hne) fun _ u19 D2 X2 hX2 ht2 hr2 hd2 _ hg2 => ?_
  rw [t3']
  have hk19 : ∀ g, s10.blk = some g → ∀ o, u14 g = some o → u19 g = some o ∧ ¬ D2 g := fun g hg o ho => by
    refine ⟨ht2.keep g o (m2 _ _ ho) (hD10 g hg), fun hd => ?_⟩
    rcases ht2.grow g hd with h5 | h5
    · exact hD10 g hg h5
    · rw [m2 _ _ ho] at h5; cases h5
  have hp2 : (ixRows X2).Perm [(3, [9, 9]), (1, [0, 0]), (2, [3, 4]), (4, [30, 40])] := by
    refine hr2.trans (List.Perm.cons _ ?_)
    exact (hrows.filter _).trans (List.Perm.refl _)
  have hid2 : (1 : Int) ∈ (ixRows X2).map (·.1) := (hp2.map (·.1)).mem_iff.2 (by decide)
  refine spec.ix_Delete hX2 (by omega) (fun hno => absurd hid2 hno) fun _ u22 D3 X3 hX3 ht3 hr3 hd3 _ hg3 => ?_
  have hl3 : (ixRows X3).length = 3 := by
    rw [hr3]
    have := (hp2.filter fun x => x.1 != 1).length_eq
    exact this
  have hk22 : ∀ g, s10.blk = some g → ∀ o, u14 g = some o → u22 g = some o := fun g hg o ho => by
    obtain ⟨h5, h6⟩ := hk19 g hg o ho
    exact ht3.keep g o h5 h6
  refine sem_build (build_ints2 1 1) fun g3 h3 => ?_
  have m3 := H.le_ins (u := u22) (b := g3) (.cells [Value.int .i64 1, .int .i64 1].toArray 3 (0, 0)) h3
  have hm0 : mayErr 0 [1, 1] X3.dim (decide ((0 : Int) ∈ (ixRows X3).map (·.1))) (ixRows X3).length = 50 := by unfold mayErr; rw [if_pos (by omega)]
  have hDn3 : ∀ g', (⟨some ⟨g3, 0, none⟩, 2, 2⟩ : Sl).blk = some g' → ¬ D3 g' := fun g' hg' hd => by
    have : g3 = g' := by simpa [Sl.blk] using hg'
    exact hX3.base.2.2 g' hd (by rw [← this]; exact h3)
  refine spec.ix_Put (hX3.mono m3) (by omega) (hTab.mono l1) (q0 h3 1 1) hDn3 (fun _ => ?_) fun he => by rw [hm0] at he; cases he
  rw [hm0]
  have hfin := h _ ((l1.trans (hX3.base.1)).trans m3)
  have hts : Hts _ s10 [((1 : Int), (0 : Int)), (3, 1)] := Seg.else hoh.hts fun g o hg ho => m3 _ _ (hk22 g hg o ho)
  intro K28 hK28
  refine ⟨fun _ => ⟨fun _ => ⟨fun _ => ⟨fun _ => ⟨fun _ => ⟨fun _ => spec.ix_Len (hX3.mono m3) ?_, fun e => (by cases e)⟩, fun e => (by cases e)⟩, fun e => absurd rfl e⟩, fun e => absurd rfl e⟩, fun e => absurd rfl e⟩, fun e => absurd rfl e⟩
  have kt : ∀ bb : Bool, bb = true → K bb (u22.ins g3 (.cells [Value.int .i64 1, .int .i64 1].toArray 3 (0, 0))) := fun bb hb => by rw [hb]; exact hfin
  refine hK28 _ _ ⟨fun _ => ?_, fun hb => ?_⟩
  · have hn2 := hts.len
    refine ⟨fun _ => ?_, fun hne => absurd (by rw [hn2]; rfl) hne⟩
    obtain ⟨p, hp, x, hx, c0, c1, c2⟩ := hts.at (x := 0) (by omega) (by rw [hn2]; decide)
    obtain ⟨p', hp', y, hy, d0, d1, d2⟩ := hts.at (x := 1) (by omega) (by rw [hn2]; decide)
    have hpp : p' = p := by rw [hp] at hp'; exact (Option.some.inj hp').symm
    subst hpp
    have hx' : x = (1, 0) := by simpa using hx.symm
    have hy' : y = (3, 1) := by simpa using hy.symm
    subst hx'; subst hy'
    refine ⟨_, hp, ⟨by omega, by rw [hn2]; decide⟩, _, c0, _, c1, _, c2, fun _ => ⟨_, hp, ⟨by omega, by rw [hn2]; decide⟩, _, d0, _, d1, _, d2, kt _ ?_⟩, fun hne => absurd ⟨rfl, rfl, rfl⟩ hne⟩
    exact decide_eq_true ⟨rfl, rfl, rfl⟩
  · rw [hl3] at hb
    simp at hb

end Go.Proofs.YtncninpdlpemgaaGreat

/- VcOpen2 -/
namespace Go.Proofs.YtncninpdlpemgaaGreat
open Go.ChangeShapes Go.WideShapes Go.ChangeAt Go.RowKit

theorem cellsOp : Tryz.prog.cellsOf 45 = 7 := by kernel_rfl
theorem cellsHow : Tryz.prog.cellsOf 25 = 3 := by kernel_rfl
theorem bytesOp : Tryz.prog.bytesOf 45 = 88 := by kernel_rfl

section
variable {H' : Type} {enc : TypeId × Value → H'}

/-- One row, opened. -/
theorem open_row1 {W : World} {cs : List Value} {fuel : Nat} {x : DataW H' × List MemPlace} (h : DataW.trod enc Tryz.prog W 0 (fun _ => true) true fuel 43 cs = some x) (hw : ∀ n ∈ x.1.weights Tryz.prog 43, n ≤ reachBytes) :
    ∃ (i : Int) (s : Sl) (v : List Int), cs = [.int .i64 i, .slice s.a s.n s.c] ∧ Ints (whole W) s v ∧ v.length ≤ 17592186044416 := by
  obtain ⟨y0, y1, k, hxy, hlen, u0, u1⟩ := trod_struct2 Tryz.underlying43 h
  rw [cells41o] at hlen
  match cs, hlen with
  | [v0, v1], _ =>
    simp only [cells3o, cells23o, List.drop, List.take] at u0 u1
    obtain ⟨q, e0, _, _⟩ := DataW.trod_int Tryz.underlying3 u0
    simp only [List.cons.injEq, and_true] at e0
    subst e0
    obtain ⟨s, rfl⟩ := cells_one u1
    obtain ⟨zs, hz, hzl⟩ := open_q u1 (fun n hn => hw n (by
      rw [hxy]
      simp only [DataW.weights, show Tryz.prog.underlying 43 = some _ from Tryz.underlying43]
      simp only [List.map_cons, List.map_nil, DataW.weightsEach, List.mem_append]
      exact .inr (.inl hn)))
    exact ⟨q, s, zs, rfl, hz, hzl⟩

/-- One call, opened. -/
theorem open_op1 {W : World} {cs : List Value} {fuel : Nat} {x : DataW H' × List MemPlace} (h : DataW.trod enc Tryz.prog W 0 (fun _ => true) true fuel 45 cs = some x) (hw : ∀ n ∈ x.1.weights Tryz.prog 45, n ≤ reachBytes) :
    ∃ o : Cll, cs = encO o ∧ Ints (whole W) o.rv o.v ∧ Ints (whole W) o.qs o.q ∧ o.v.length ≤ 17592186044416 ∧ o.q.length ≤ 17592186044416 := by
  obtain ⟨xs, n, _, hxy, hlen, hxl, hf⟩ := DataW.trod_struct Tryz.underlying45 h
  rw [cellsOp] at hlen
  match xs, hxl, cs, hlen with
  | [y0, y1, y2, y3, y4, y5], _, [v0, v1, v2, v3, v4, v5, v6], _ =>
    have f0 : DataW.trod enc Tryz.prog W 0 (fun _ => true) true n 3 (([v0, v1, v2, v3, v4, v5, v6].drop 0).take (Tryz.prog.cellsOf 3)) = some y0 := hf 0 _ rfl
    have f1 : DataW.trod enc Tryz.prog W 0 (fun _ => true) true n 3 (([v0, v1, v2, v3, v4, v5, v6].drop 1).take (Tryz.prog.cellsOf 3)) = some y1 := hf 1 _ rfl
    have f2 : DataW.trod enc Tryz.prog W 0 (fun _ => true) true n 3 (([v0, v1, v2, v3, v4, v5, v6].drop 2).take (Tryz.prog.cellsOf 3)) = some y2 := hf 2 _ rfl
    have f3 : DataW.trod enc Tryz.prog W 0 (fun _ => true) true n 3 (([v0, v1, v2, v3, v4, v5, v6].drop 3).take (Tryz.prog.cellsOf 3)) = some y3 := hf 3 _ rfl
    have f4 : DataW.trod enc Tryz.prog W 0 (fun _ => true) true n 43 (([v0, v1, v2, v3, v4, v5, v6].drop 4).take (Tryz.prog.cellsOf 43)) = some y4 := hf 4 _ rfl
    have f5 : DataW.trod enc Tryz.prog W 0 (fun _ => true) true n 41 (([v0, v1, v2, v3, v4, v5, v6].drop 6).take (Tryz.prog.cellsOf 41)) = some y5 := hf 5 _ rfl
    simp only [cells3o, cells23o, cells41o, List.drop, List.take] at f0 f1 f2 f3 f4 f5
    obtain ⟨q0, e0, _, _⟩ := DataW.trod_int Tryz.underlying3 f0
    obtain ⟨q1, e1, _, _⟩ := DataW.trod_int Tryz.underlying3 f1
    obtain ⟨q2, e2, _, _⟩ := DataW.trod_int Tryz.underlying3 f2
    obtain ⟨q3, e3, _, _⟩ := DataW.trod_int Tryz.underlying3 f3
    have hin : ∀ {t : TypeId} {y : DataW H' × List MemPlace}, ∀ m : Nat, m ∈ y.1.weights Tryz.prog t → (t = 43 ∧ y = y4 ∨ t = 41 ∧ y = y5) → m ≤ reachBytes := fun m hm hc => hw m (by
      rw [hxy]
      simp only [DataW.weights, show Tryz.prog.underlying 45 = some _ from Tryz.underlying45]
      simp only [List.map_cons, List.map_nil, DataW.weightsEach, List.mem_append]
      rcases hc with ⟨rfl, rfl⟩ | ⟨rfl, rfl⟩
      · exact .inr (.inr (.inr (.inr (.inl hm))))
      · exact .inr (.inr (.inr (.inr (.inr (.inl hm))))))
    obtain ⟨ri, rs, rv, er, hr, hrl⟩ := open_row1 f4 (fun m hm => hin m hm (.inl ⟨rfl, rfl⟩))
    obtain ⟨qs, eq⟩ := cells_one f5
    subst eq
    obtain ⟨zs, hz, hzl⟩ := open_q f5 (fun m hm => hin m hm (.inr ⟨rfl, rfl⟩))
    simp only [List.cons.injEq, and_true] at e0 e1 e2 e3 er
    obtain ⟨er0, er1⟩ := er
    subst e0 e1 e2 e3 er0 er1
    exact ⟨⟨q0, q1, q2, q3, ri, rs, rv, qs, zs⟩, rfl, hr, hz, hrl, hzl⟩

/-- A way of building, opened. -/
theorem open_how {W : World} {cs : Array Value} {fuel : Nat} {x : DataW H' × List MemPlace} (h : DataW.trod enc Tryz.prog W 0 (fun _ => true) true fuel 25 cs.toList = some x) :
    ∃ a b s : Int, U64 s ∧ cs = #[.int .i64 a, .int .i64 b, .int .u64 s] := by
  obtain ⟨y0, y1, y2, k, _, hlen, u0, u1, u2⟩ := Deep.trod_struct3 Tryz.underlying25 h
  rw [cellsHow] at hlen
  obtain ⟨cl⟩ := cs
  change cl.length = 3 at hlen
  match cl, hlen with
  | [v0, v1, v2], _ =>
    simp only [cells3o, cells24o, List.drop, List.take] at u0 u1 u2
    obtain ⟨m0, e0, _, _⟩ := DataW.trod_int Tryz.underlying3 u0
    obtain ⟨m1, e1, _, _⟩ := DataW.trod_int Tryz.underlying3 u1
    obtain ⟨m2, e2, _, w2⟩ := DataW.trod_int Tryz.underlying23 u2
    simp only [List.cons.injEq, and_true] at e0 e1 e2
    subst e0 e1 e2
    refine ⟨m0, m1, m2, ?_, rfl⟩
    simp only [Lit.wf, Bool.and_eq_true, decide_eq_true_eq] at w2
    have g1 : IntKind.min .u64 = 0 := by decide
    have g2 : IntKind.max .u64 = 18446744073709551615 := by decide
    rw [g1, g2] at w2
    exact ⟨w2.1, by omega⟩

instance : Inhabited Cll := ⟨⟨0, 0, 0, 0, 0, ⟨none, 0, 0⟩, [], ⟨none, 0, 0⟩, []⟩⟩

/-- Calls, opened. -/
theorem open_ops {W : World} {a : Option Addr} {len cap fuel : Nat} {x : DataW H' × List MemPlace} (h : DataW.trod enc Tryz.prog W 0 (fun _ => true) true fuel 39 [.slice a len cap] = some x) (hw : ∀ n ∈ x.1.weights Tryz.prog 39, n ≤ reachBytes) :
    ∃ l : List Cll, Ops (whole W) ⟨a, len, cap⟩ l ∧ (∀ o ∈ l, o.v.length ≤ 17592186044416 ∧ o.q.length ≤ 17592186044416) ∧ len ≤ 17592186044416 := by
  have hr : reachBytes = 140737488351232 := by decide
  rcases Deep.open_slice Tryz.underlying39 h with ⟨hcs, _⟩ | ⟨p, l, c, m, n, D, Pl, hcs, hb, hl, hm, hmm, hx, hel⟩
  · simp only [List.cons.injEq, Value.slice.injEq, and_true] at hcs
    obtain ⟨rfl, rfl, rfl⟩ := hcs
    exact ⟨[], ⟨⟨rfl, Nat.le_refl _, by simp, .inl rfl⟩, fun _ h => (by cases h)⟩, fun _ h => (by cases h), by omega⟩
  simp only [List.cons.injEq, Value.slice.injEq, and_true] at hcs
  obtain ⟨rfl, rfl, rfl⟩ := hcs
  simp only [if_true] at hmm
  subst hmm
  rw [maxLen_eq] at hm
  have hwt : ∀ k, k ∈ (((List.range len).map D).length + ((List.range (m - len)).map fun j => D (len + j)).length) * Tryz.prog.bytesOf 45 :: (DataW.weightsAll Tryz.prog 45 ((List.range len).map D) ++ DataW.weightsAll Tryz.prog 45 ((List.range (m - len)).map fun j => D (len + j))) → k ≤ reachBytes := by
    intro k hk
    refine hw k ?_
    rw [hx]
    simp only [DataW.weights, show Tryz.prog.underlying 39 = some (.slice 45) from Tryz.underlying39]
    exact hk
  have hcb : len * 32 ≤ reachBytes := by
    have := hwt _ (List.mem_cons_self ..)
    rw [bytesOp] at this
    simp at this
    have e : len + (m - len) = m := by omega
    omega
  have each : ∀ i, i < len → ∃ o : Cll, (∀ j, j < 7 → W.cell? ((p.add (i * 7)).add j) = (encO o)[j]?) ∧ (Ints (whole W) o.rv o.v ∧ Ints (whole W) o.qs o.q) ∧ o.v.length ≤ 17592186044416 ∧ o.q.length ≤ 17592186044416 := by
    intro i hi
    obtain ⟨cs', h1, h2⟩ := hel i (by omega)
    rw [cellsOp] at h1
    obtain ⟨_, hlen, hcell⟩ := World.cells?_some h1
    have hwi : ∀ n ∈ (D i).weights Tryz.prog 45, n ≤ reachBytes := fun n hn => hwt n (List.mem_cons_of_mem _ (List.mem_append_left _ (weights_all (i := i) (d := D i) (by simp [hi]) n hn)))
    obtain ⟨o, rfl, hv, hq, hvl, hql⟩ := open_op1 h2 hwi
    exact ⟨o, hcell, ⟨hv, hq⟩, hvl, hql⟩
  obtain ⟨f, hf⟩ := Deep.choose_lt each
  have hfl : ((List.range len).map f).length = len := by simp
  refine ⟨(List.range len).map f, ⟨⟨?_, hl, hm, .inr ⟨p, rfl, fun j v e => ?_⟩⟩, fun r hr => ?_⟩, fun r hr => ?_, by omega⟩
  · rw [flat_len encO_len, hfl]
  · have hj : j < len * 7 := by
      have := (List.getElem?_eq_some_iff.1 e).1
      rw [flat_len encO_len, hfl] at this
      exact this
    have e1 : j = j / 7 * 7 + j % 7 := by omega
    have hd : j / 7 < len := by omega
    rw [whole_cell]
    rw [e1, flat_get encO_len _ _ _ (Nat.mod_lt _ (by decide))] at e
    rw [List.getElem?_map, List.getElem?_range hd] at e
    simp only [Option.map_some, Option.bind_some] at e
    obtain ⟨g0, _⟩ := hf (j / 7) hd
    rw [e1, ← Addr.add_add', g0 _ (Nat.mod_lt _ (by decide)), e]
  · obtain ⟨i, hi, rfl⟩ := List.mem_map.1 hr
    exact (hf i (by simpa using hi)).2.1
  · obtain ⟨i, hi, rfl⟩ := List.mem_map.1 hr
    exact (hf i (by simpa using hi)).2.2

end

end Go.Proofs.YtncninpdlpemgaaGreat

/- VcLawT3 -/
namespace Go.Proofs.YtncninpdlpemgaaGreat

/-- A table that lies apart from blocks D. -/
structure TabSt (ub u : H) (D : Nat → Prop) (n : Nat) (d : Int) (L : List Rw) : Prop where
  ex : ∃ uT, uT.le u ∧ (∀ c, D c → uT c = none) ∧ TabAt uT n d L ∧ ub.le uT ∧ ub n = none

theorem TabSt.le {ub u : H} {D : Nat → Prop} {n : Nat} {d : Int} {L : List Rw} (h : TabSt ub u D n d L) : ub.le u := by
  obtain ⟨uT, h1, _, _, h4, _⟩ := h.ex
  exact h4.trans h1

theorem TabSt.mono {ub u u' : H} {D : Nat → Prop} {n : Nat} {d : Int} {L : List Rw} (h : TabSt ub u D n d L) (hu : u.le u') : TabSt ub u' D n d L := by
  obtain ⟨uT, h1, h2, h3, h4, h5⟩ := h.ex
  exact ⟨uT, h1.trans hu, h2, h3, h4, h5⟩

theorem TabSt.rows {ub u : H} {D : Nat → Prop} {n : Nat} {d : Int} {L : List Rw} (h : TabSt ub u D n d L) : ∃ s : Sl, u n = some (.cells #[.int .i64 d, .slice s.a s.n s.c] 79 (0, 0)) ∧ Rws u s L := by
  obtain ⟨uT, h1, _, h3, _, _⟩ := h.ex
  obtain ⟨s, v, hn, hv, _, hR⟩ := h3.ex
  exact ⟨s, h1 _ _ hn, hR.mono (hv.trans h1)⟩

theorem TabSt.rise {ub u : H} {D : Nat → Prop} {n : Nat} {d : Int} {L : List Rw} (h : TabSt ub u D n d L) : (L.map Rw.pr).Pairwise fun a b => a.1 < b.1 := by
  obtain ⟨uT, _, _, h3, _, _⟩ := h.ex
  exact h3.rise

theorem TabSt.nodup {ub u : H} {D : Nat → Prop} {n : Nat} {d : Int} {L : List Rw} (h : TabSt ub u D n d L) : (L.map (·.id)).Nodup := by
  obtain ⟨uT, _, _, h3, _, _⟩ := h.ex
  rw [List.nodup_iff_pairwise_ne, List.pairwise_map]
  exact h3.srt.imp fun h => Int.ne_of_lt h

/-- The tree turned: the table lies apart from it still. -/
theorem TabSt.turn {ub u u' : H} {D D' : Nat → Prop} {n : Nat} {d : Int} {L : List Rw} (h : TabSt ub u D n d L) (k : IxTurn u D u' D') : TabSt ub u' D' n d L := by
  obtain ⟨uT, h1, h2, h3, h4, h5⟩ := h.ex
  obtain ⟨k1, k2⟩ := k.apart h1 h2
  exact ⟨uT, k1, k2, h3, h4, h5⟩

/-- A tree and a table of the same rows. -/
structure TSt (ub u : H) (D : Nat → Prop) (b : Nat) (X : Tr) (n : Nat) (L : List Rw) : Prop where
  ix : Ix ub u D b X
  tab : TabSt ub u D n X.dim L
  perm : (ixRows X).Perm (L.map Rw.pr)
  ok : Rok L X.dim

theorem TSt.mono {ub u u' : H} {D : Nat → Prop} {b : Nat} {X : Tr} {n : Nat} {L : List Rw} (h : TSt ub u D b X n L) (hu : u.le u') : TSt ub u' D b X n L := ⟨h.ix.mono hu, h.tab.mono hu, h.perm, h.ok⟩
theorem TSt.le {ub u : H} {D : Nat → Prop} {b : Nat} {X : Tr} {n : Nat} {L : List Rw} (h : TSt ub u D b X n L) : ub.le u := h.tab.le

theorem TSt.ids {ub u : H} {D : Nat → Prop} {b : Nat} {X : Tr} {n : Nat} {L : List Rw} (h : TSt ub u D b X n L) (id : Int) : id ∈ (ixRows X).map (·.1) ↔ id ∈ L.map (·.id) := by
  rw [ids_pr]
  exact (h.perm.map _).mem_iff

theorem TSt.len {ub u : H} {D : Nat → Prop} {b : Nat} {X : Tr} {n : Nat} {L : List Rw} (h : TSt ub u D b X n L) : (ixRows X).length = L.length := by
  have := h.perm.length_eq
  simpa using this

end Go.Proofs.YtncninpdlpemgaaGreat

/- VcLawT4 -/
namespace Go.Proofs.YtncninpdlpemgaaGreat

theorem mayErr_ok {id : Int} {v : List Int} {d : Int} {there : Bool} {many : Int} (h : mayErr id v d there many = 0) : 1 ≤ id ∧ id ≤ 1000000000 ∧ vcheck v d = 0 ∧ (there = false → many < 512) := by
  unfold mayErr at h
  split at h
  · omega
  · split at h
    · rename_i h1 h2; exact absurd h h2
    · split at h
      · omega
      · rename_i h1 h2 h3
        refine ⟨by omega, by omega, by omega, fun ht => ?_⟩
        by_cases hm : many < 512
        · exact hm
        · exact absurd ⟨ht, by omega⟩ h3

theorem filter_ne_lt {P : List Pr} {id : Int} (h : id ∈ P.map (·.1)) : (P.filter fun p => p.1 != id).length < P.length := by
  obtain ⟨p, hp1, hp2⟩ := List.mem_map.1 h
  exact List.length_filter_lt_length_iff_exists.2 ⟨p, hp1, by simp [hp2]⟩

theorem TSt.known {ub u : H} {D : Nat → Prop} {b : Nat} {X : Tr} {n : Nat} {L : List Rw} (h : TSt ub u D b X n L) : ∀ c, D c → u c ≠ none := h.ix.base.2.2

end Go.Proofs.YtncninpdlpemgaaGreat

/- VcLawT5 -/
namespace Go.Proofs.YtncninpdlpemgaaGreat

end Go.Proofs.YtncninpdlpemgaaGreat

/- VcLawT6 -/
namespace Go.Proofs.YtncninpdlpemgaaGreat

/-- A put leaves few rows. -/
theorem few_put {P P' : List Pr} {id : Int} {q : List Int} {d : Int} (hf : P.length ≤ 512) (he : mayErr id q d (decide (id ∈ P.map (·.1))) P.length = 0) (hp : P'.Perm ((id, q) :: P.filter fun x => x.1 != id)) : P'.length ≤ 512 := by
  obtain ⟨_, _, _, h4⟩ := mayErr_ok he
  have e := hp.length_eq
  simp only [List.length_cons] at e
  by_cases hm : id ∈ P.map (·.1)
  · have := filter_ne_lt hm
    omega
  · have := h4 (by simp only [decide_eq_false_iff_not]; exact hm)
    have h7 := List.length_filter_le (fun p : Pr => p.1 != id) P
    omega

theorem spec.theodolitelaw07_plays {ub u : H} {D : Nat → Prop} {b : Nat} {X : Tr} {t : Sl} {ops : List Cll} {K : H → Prop} (h : Ix ub u D b X) (hf : (ixRows X).length ≤ 512) (hgas : ixGas X + ops.length ≤ 2700) (hTab : TabU ub) (hO : Ops ub t ops) (htn : t.n ≤ 17592186044416)
    (hK : ∀ u' D' X', Ix ub u' D' b X' → (ixRows X').length ≤ 512 → X'.dim = X.dim → X'.links = X.links → IxTurn u D u' D' → ixGas X' ≤ ixGas X + ops.length → K u') : C.theodolitelaw07_plays (some ⟨b, 0, none⟩) t u K := by
  have hon := hO.len
  apply vc.theodolitelaw07_plays
  refine ⟨fun x v => 0 ≤ x ∧ ∃ D' X', Ix ub v D' b X' ∧ (ixRows X').length ≤ 512 ∧ X'.dim = X.dim ∧ X'.links = X.links ∧ IxTurn u D v D' ∧ (ixGas X' : Int) ≤ ixGas X + x ∧ x ≤ t.n, fun x _ => ((t.n : Int) - x).toNat, ⟨by omega, D, X, h, hf, rfl, rfl, IxTurn.mono (H.le.refl u), by omega, by omega⟩, fun x v hI => ⟨fun hx => ?_, fun hx => ?_⟩⟩
  · obtain ⟨h0, D', X', hX, hf', hd, hl, ht, hgx, hxt⟩ := hI
    obtain ⟨p, hp, o, _, hmem, c0, c1, c2, c3, c4, c5, c6, hv, hq⟩ := (hO.mono hX.base.1).at h0 hx
    have next : ∀ {v' : H} {D2 : Nat → Prop} {X2 : Tr}, Ix ub v' D2 b X2 → (ixRows X2).length ≤ 512 → X2.dim = X'.dim → X2.links = X'.links → IxTurn v D' v' D2 → ixGas X2 ≤ ixGas X' + 1 →
        InR (x + 1) ∧ (0 ≤ x + 1 ∧ ∃ D' X', Ix ub v' D' b X' ∧ (ixRows X').length ≤ 512 ∧ X'.dim = X.dim ∧ X'.links = X.links ∧ IxTurn u D v' D' ∧ (ixGas X' : Int) ≤ ixGas X + (x + 1) ∧ x + 1 ≤ t.n) ∧ ((t.n : Int) - (x + 1)).toNat < ((t.n : Int) - x).toNat := fun i1 i2 i3 i4 i5 i6 =>
      ⟨⟨by omega, by omega⟩, ⟨by omega, _, _, i1, i2, i3.trans hd, i4.trans hl, ht.trans i5, by omega, by omega⟩, by omega⟩
    refine ⟨p, hp, ⟨h0, hx⟩, _, c0, fun _ => ⟨p, hp, ⟨h0, hx⟩, _, c4, _, c5, ?_⟩, fun _ => ⟨fun _ => ⟨p, hp, ⟨h0, hx⟩, _, c1, ?_⟩, fun _ => next hX hf' rfl rfl (IxTurn.mono (H.le.refl v)) (Nat.le_succ _)⟩⟩
    · refine spec.ix_PutB hX (by omega) hTab (hO.2 o hmem).1 (fun _ => next hX hf' rfl rfl (IxTurn.mono (H.le.refl v)) (Nat.le_succ _)) fun he v' D2 X2 i1 i2 i3 i4 i5 i6 => next i1 (few_put hf' he i3) i4 i5 i2 i6
    · refine spec.ix_Delete hX (by omega) (fun _ v' lv => next (hX.mono lv) hf' rfl rfl (IxTurn.mono lv) (Nat.le_succ _)) fun _ v' D2 X2 i1 i2 i3 i4 i5 i6 => next i1 ?_ i4 i5 i2 (Nat.le_succ_of_le i6)
      rw [i3]
      exact Nat.le_trans (List.length_filter_le _ _) hf'
  · obtain ⟨h0, D', X', hX, hf', hd, hl, ht, hgx, hxt⟩ := hI
    exact hK v D' X' hX hf' hd hl ht (by omega)

end Go.Proofs.YtncninpdlpemgaaGreat

/- VcLawT7 -/
namespace Go.Proofs.YtncninpdlpemgaaGreat

theorem ixErr_few {l : List Rw} {d A B : Int} (h : ixErr l d A B = 0) {P : List Pr} (hp : P.Perm (l.map Rw.pr)) : P.length ≤ 512 := by
  have h1 := (ixErr_rok h).len
  have h2 := hp.length_eq
  rw [List.length_map] at h2
  omega

/-- Asked of sound rows of its dimension, looking at all fails as a search with a budget for all does. -/
theorem top_ask {ls : List Rw} {q : List Int} {d k : Int} (hd : d = q.length) (h : Rok ls d) : topErr ls q k = askErr q d k 1000000 := by
  subst hd
  unfold topErr askErr asked
  rw [rcheck_ok.2 h]
  by_cases hv : vcheck q q.length = 0
  · simp only [hv, ne_eq, not_true_eq_false, if_false]
    by_cases hk : k < 1 ∨ 64 < k
    · rw [if_pos hk, if_pos (by omega)]
    · rw [if_neg hk, if_neg (by omega)]
  · simp only [ne_eq, hv, not_false_eq_true, if_true]

/-- A search with a budget for all tells the first k of all rows. -/
theorem ix_all {u0 u : H} {D : Nat → Prop} {b : Nat} {X : Tr} (h : Ix u0 u D b X) (hf : (ixRows X).length ≤ 512) {q : List Int} {k : Int} (he : askErr q X.dim k 1000000 = 0) {L : List Rw} (hL : (L.map Rw.pr).Perm (ixRows X)) :
    ixH X q k 1000000 = topk k.toNat (L.map (hitOf q)) ∧ (ixS X q k 1000000).length ≤ (ixRows X).length := by
  obtain ⟨hv, k1, k2, _, _⟩ := askErr_ok.1 he
  obtain ⟨_, _, hql, hvq⟩ := vcheck_ok hv
  have hrok := ix_rok h hf hL
  have hqok : Qok L q := ⟨hvq, by rw [hql]; exact hrok⟩
  have hlen := hL.length_eq
  rw [List.length_map] at hlen
  exact ix_enough h he hL hqok (by omega)

theorem law.KdtreeWhole {s t qs : Sl} {l : List Rw} {ops : List Cll} {q : List Int} {A B seed k : Int} {u : H} {K : Bool → H → Prop} (hTab : TabU u) (hc : Come2 u s t l ops) (hU : U64 seed) (hq : Ints u qs q) (h : ∀ u', u.le u' → K true u') :
    C.theodolitelaw07_KdtreeWhole s A B seed t qs k u K := by
  have hqn := hq.len
  apply vc.theodolitelaw07_KdtreeWhole
  intro K0 h0
  refine spec.theodolitelaw07_big hc ⟨fun _ => h u (H.le.refl u), fun e => (by cases e)⟩ fun _ hol _ _ => ⟨fun e => (by cases e), fun _ => ⟨fun _ => h u (H.le.refl u), fun _ => h0 _ _ ?_⟩⟩
  refine spec.ix_Build hc.rows hTab hU (fun hne => ?_) (fun he b D X u5 hX hp hdim hlinks hg0 => ?_)
  · intro K6 h6
    exact ⟨fun _ => spec.theodolitelaw07_awake hTab h, fun e => absurd e hne⟩
  · intro K6 h6
    refine ⟨fun hx => absurd rfl hx, fun _ => ⟨fun e => (by cases e), fun _ => h6 _ _ ?_⟩⟩
    refine spec.theodolitelaw07_plays hX (ixErr_few he hp) (by omega) hTab hc.calls hc.tn fun u9 D' X' hX' hf' hd' _ _ hgx => ?_
    have hd : X'.dim = q.length := by rw [hd', hdim, hqn]
    have hub9 := hX'.base.1
    have fin : ∀ {bb : Bool} {v : H}, bb = true → u.le v → K bb v := fun hb hv => by rw [hb]; exact h _ hv
    -- behind the search
    have rest : ∀ {sh ss sr : Sl} {e : Int} {u14 : H} {H1 : List Hit} {n : Nat}, e = askErr q X'.dim k 1000000 → u9.le u14 → Hts u14 sh H1 → H1.length ≤ 64 → ss.n = n → n ≤ (ixRows X').length → (e ≠ 0 → H1 = []) → (e = 0 → H1 = ixH X' q k 1000000) →
        C.kdtree_Tree__Rows (some ⟨b, 0, none⟩) u14 (fun (s15 : Sl) (u16 : H) => C.flat_TopK s15 qs k u16 (fun (s17 : Sl) (x18 : Int) (u19 : H) => C.theodolitelaw07_awake u19 (fun (b20 : Bool) (u21 : H) => ((b20 = Bool.true) → ((e = x18) → C.theodolitekeep_Hits sh s17 u21 (fun (b22 : Bool) (u23 : H) => ((b22 = Bool.true) → (C.kdtree_Tree__Len (some ⟨b, 0, none⟩) u23 (fun (x24 : Int) (u25 : H) => K (decide ((ss.n : Int) ≤ x24)) u25)) ∧ (C.kdtree_Tree__Len (some ⟨b, 0, none⟩) u23 (fun (x26 : Int) (u27 : H) => K (decide ((ss.n : Int) ≤ x26)) u27))) ∧ ((b22 = Bool.false) → ((K Bool.false u23) ∧ (K Bool.false u23)) ∧ (K Bool.false u23)))) ∧ ((¬ (e = x18)) → ((K Bool.false u21) ∧ (K Bool.false u21)) ∧ (K Bool.false u21))) ∧ ((b20 = Bool.false) → ((K Bool.false u21) ∧ (K Bool.false u21)) ∧ (K Bool.false u21))))) := by
      intro sh ss sr e u14 H1 n ee l14 hH1 _ hsn hnl hbad hok
      have i14 := hX'.mono l14
      refine spec.ix_Rows i14 fun s15 ls u16 hR hpr _ => ?_
      have l16 : u.le u16 := (hub9.trans l14).trans hR.own.le
      refine spec.TopK hR.rws (hq.mono l16) fun s17 x18 u19 hres => ?_
      have hrok := ix_rok i14 hf' hpr
      have ex : x18 = e := by rw [hres.err, top_ask hd hrok, ee]
      obtain ⟨L2, hH2, _, g1, g2⟩ := hres.hts
      have eL : H1 = L2 := by
        by_cases h0 : e = 0
        · rw [hok h0, g1 (ex.trans h0)]
          exact (ix_all i14 hf' (ee ▸ h0) hpr).1
        · rw [hbad h0, g2 (by rw [ex]; exact h0)]
      refine spec.theodolitelaw07_awake (hTab.mono (l16.trans hres.1)) fun u21 l21 => ⟨fun _ => ⟨fun _ => ?_, fun hx => absurd ex.symm hx⟩, fun e => (by cases e)⟩
      refine spec.theodolitekeep_Hits (hH1.mono ((hR.own.le.trans hres.1).trans l21)) (hH2.mono l21) ?_
      have i21 := i14.mono ((hR.own.le.trans hres.1).trans l21)
      have len : ∀ {A : Int → H → Prop}, A ((ixRows X').length : Int) u21 → C.kdtree_Tree__Len (some ⟨b, 0, none⟩) u21 A := fun hA => spec.ix_Len i21 hA
      refine ⟨fun _ => ⟨len (fin (decide_eq_true (by omega)) i21.base.1), len (fin (decide_eq_true (by omega)) i21.base.1)⟩, fun hb => ?_⟩
      rw [decide_eq_true eL] at hb
      cases hb
    refine spec.ix_Search hX' (by omega) (hq.mono hub9) (fun hne u14 l14 => ?_) (fun he14 sh ss sr rst u14 ha _ => ?_)
    · exact rest (sr := ⟨none, 0, 0⟩) (n := 0) rfl l14 (show Hts u14 ⟨none, 0, 0⟩ [] from (OwnF.nil (H.le.refl u14) 0 3).own.seg) (by simp) rfl (Nat.zero_le _) (fun _ => rfl) (fun e => absurd e hne)
    · have hk := (askErr_ok.1 he14)
      refine rest (sr := sr) (n := (ixS X' q k 1000000).length) he14.symm ha.le ha.read.h ?_ (by have := ha.read.s.len; omega) ?_ (fun e => absurd rfl e) (fun _ => rfl)
      · show (topk _ _).length ≤ 64
        rw [topk_len]
        omega
      · obtain ⟨s1, ls, hls⟩ : ∃ (z : Nat) (ls : List Rw), (ls.map Rw.pr).Perm (ixRows X') := ⟨0, (ixRows X').map fun p => ⟨p.1, ⟨none, 0, 0⟩, p.2⟩, by rw [List.map_map]; exact List.Perm.of_eq (List.map_id' _)⟩
        have := (ix_all hX' hf' he14 hls).2
        omega

end Go.Proofs.YtncninpdlpemgaaGreat

/- VcLawT8 -/
namespace Go.Proofs.YtncninpdlpemgaaGreat

theorem spec.emptySearch {u0 u : H} {D : Nat → Prop} {b : Nat} {X : Tr} {t : Sl} {q : List Int} {k bud : Int} {K : Sl → Sl → Sl → Int → H → Prop} (h : Ix u0 u D b X) (hgas : ixGas X ≤ 2700) (h0 : ixRows X = []) (ht : Ints u t q)
    (hK : ∀ (sh ss sr : Sl) e u', u.le u' → sh.n = 0 → ss.n = 0 → sr.n = 0 → K sh ss sr e u') : C.kdtree_Tree__Search (some ⟨b, 0, none⟩) t k bud u K := by
  refine spec.ix_Search h hgas ht (fun hne u' l => hK _ _ _ _ u' l rfl rfl rfl) fun he sh ss sr rest u' ha hr => ?_
  have hL : (([] : List Rw).map Rw.pr).Perm (ixRows X) := by rw [h0]; exact .refl _
  have hrok := ix_rok h (by rw [h0]; simp) hL
  obtain ⟨_, _, hql, hvq⟩ := vcheck_ok (askErr_ok.1 he).1
  obtain ⟨hS, _, _⟩ := ix_sound3 h he hL ⟨hvq, by rw [hql]; exact hrok⟩ hr
  have hall := hS.all.length_eq
  simp only [List.length_append, List.map_nil, List.length_nil] at hall
  have hs0 : (ixS X q k bud) = [] := List.eq_nil_of_length_eq_zero (by omega)
  have hr0 : rest.flatMap (·.ids) = [] := List.eq_nil_of_length_eq_zero (by omega)
  have hrest : rest = [] := by
    cases rest with
    | nil => rfl
    | cons r rs =>
      have h1 := (hS.reg r (List.mem_cons_self ..)).2.1
      rw [List.flatMap_cons] at hr0
      exact absurd (List.append_eq_nil_iff.1 hr0).1 h1
  have hh0 : ixH X q k bud = [] := by
    rw [hS.first [] (fun _ hx => (by cases hx)) hs0.symm]
    exact List.eq_nil_of_length_eq_zero (by rw [topk_len]; simp)
  have n1 := ha.read.h.len
  have n2 := ha.read.s.len
  have n3 := ha.read.r.len
  rw [hh0] at n1
  rw [hs0] at n2
  rw [hrest] at n3
  exact hK sh ss sr 0 u' ha.le n1 n2 n3

theorem spec.emptyTail {ub u : H} {D : Nat → Prop} {b : Nat} {X : Tr} {t ms : Sl} {q mv : List Int} {k id : Int} {Q : Bool → Int → Sl → Sl → Sl → Int → H → Prop} (h : Ix ub u D b X) (hgas : ixGas X ≤ 2600) (h0 : ixRows X = []) (hTab : TabU ub) (ht : Ints ub t q) (hm : Ints ub ms mv)
    (hbad : ∀ b' x s1 s2 s3 y u', ub.le u' → (x ≠ 0 ∨ y ≠ 0) → Q b' x s1 s2 s3 y u')
    (hok : ∀ s1 s2 s3 u' D' X' (d : Int), Ix ub u' D' b X' → (ixRows X').length = 1 → Hts u' s1 [⟨id, d⟩] → Q true 0 s1 s2 s3 0 u') :
    C.kdtree_Tree__Put (some ⟨b, 0, none⟩) id ms u fun (b27 : Bool) (x28 : Int) (u29 : H) => C.kdtree_Tree__Search (some ⟨b, 0, none⟩) t k 1000000 u29 fun (s30 : Sl) (s31 : Sl) (s32 : Sl) (x33 : Int) (u34 : H) => Q b27 x28 s30 s31 s32 x33 u34 := by
  refine spec.ix_PutB h (by omega) hTab hm (fun hne => ?_) fun he u2 D2 X2 i1 i2 i3 i4 i5 i6 => ?_
  · refine spec.ix_Search h (by omega) (ht.mono h.base.1) (fun _ u' l => hbad _ _ _ _ _ _ u' (h.base.1.trans l) (.inl hne)) fun _ sh ss sr rest u' ha _ => hbad _ _ _ _ _ _ u' (h.base.1.trans ha.le) (.inl hne)
  · rw [h0] at i3
    have e2 : ixRows X2 = [(id, mv)] := List.perm_singleton.1 i3
    have hb : decide (id ∉ (ixRows X).map (·.1)) = true := by rw [h0]; simp
    rw [hb]
    refine spec.ix_Search i1 (by omega) (ht.mono i1.base.1) (fun hne u' l => hbad _ _ _ _ _ _ u' (i1.base.1.trans l) (.inr hne)) fun he sh ss sr rest u' ha _ => ?_
    have hL : ([(⟨id, ⟨none, 0, 0⟩, mv⟩ : Rw)].map Rw.pr).Perm (ixRows X2) := by rw [e2]; exact .refl _
    have hh := (ix_all i1 (by rw [e2]; simp) he hL).1
    have hk := askErr_ok.1 he
    have e3 : ixH X2 q k 1000000 = [hitOf q ⟨id, ⟨none, 0, 0⟩, mv⟩] := by
      rw [hh]
      obtain ⟨m, hm⟩ : ∃ m, k.toNat = m + 1 := ⟨k.toNat - 1, by omega⟩
      have hp := sortH_perm [hitOf q ⟨id, ⟨none, 0, 0⟩, mv⟩]
      show (sortH _).take k.toNat = _
      rw [show sortH ([(⟨id, ⟨none, 0, 0⟩, mv⟩ : Rw)].map (hitOf q)) = [hitOf q ⟨id, ⟨none, 0, 0⟩, mv⟩] from List.perm_singleton.1 hp, hm]
      simp
    have hH := ha.read.h
    rw [e3] at hH
    exact hok _ _ _ u' D2 X2 _ (i1.mono ha.le) (by rw [e2]; rfl) hH

theorem law.KdtreeEmpty {s qs ms : Sl} {l : List Rw} {q mv : List Int} {A B seed k bud id : Int} {u : H} {K : Bool → H → Prop} (hTab : TabU u) (hs : Rws u s l) (hsm : ∀ r ∈ l, r.v.length ≤ 17592186044416) (hsn : s.n ≤ 17592186044416) (hU : U64 seed)
    (hq : Ints u qs q) (hm : Ints u ms mv) (h : ∀ u', u.le u' → K true u') : C.theodolitelaw07_KdtreeEmpty s A B seed qs k bud id ms u K := by
  have hqn := hq.len
  have hln := hs.len
  apply vc.theodolitelaw07_KdtreeEmpty
  intro K0 h0
  refine spec.theodolitelaw07_big (ops := []) ⟨hs, Ops.nil u, hsm, hsn, fun o ho => (by cases ho), by show 0 ≤ 17592186044416; omega⟩ ⟨fun _ => h u (H.le.refl u), fun e => (by cases e)⟩ fun hl _ _ _ => ⟨fun e => (by cases e), fun _ => ⟨fun _ => h u (H.le.refl u), fun _ => ⟨fun _ => h u (H.le.refl u), fun _ => h0 _ _ ?_⟩⟩⟩
  refine spec.ix_Build hs hTab hU (fun hne => ?_) (fun he b D X u5 hX hp hdim hlinks hg0 => ?_)
  · intro K6 h6
    exact ⟨fun _ => spec.theodolitelaw07_awake hTab h, fun e => absurd e hne⟩
  intro K6 h6
  refine ⟨fun hx => absurd rfl hx, fun _ => ⟨fun e => (by cases e), fun _ => h6 _ _ ?_⟩⟩
  have hrok := ixErr_rok he
  have fin : ∀ {bb : Bool} {v : H}, bb = true → u.le v → K bb v := fun hb hv => by rw [hb]; exact h _ hv
  refine ⟨fun _ x v => 0 ≤ x ∧ ∃ D' X', Ix u v D' b X' ∧ (ixRows X').Perm ((l.drop x.toNat).map Rw.pr) ∧ ixGas X' = 0, fun _ x _ => ((s.n : Int) - x).toNat, ⟨by omega, D, X, hX, hp, hg0⟩, fun b11 x v hI => ⟨fun hx => ?_, fun hx => ?_⟩⟩
  · obtain ⟨h0, D', X', hX', hpX, hgx⟩ := hI
    have hxl : x.toNat < l.length := by omega
    obtain ⟨p, hpp, r, hr, c0, _, _⟩ := (hs.mono hX'.base.1).at h0 hx
    have er : l[x.toNat] = r := (List.getElem?_eq_some_iff.1 hr).2
    have hdrop : l.drop x.toNat = r :: l.drop (x.toNat + 1) := by rw [List.drop_eq_getElem_cons hxl, er]
    have hin : r.id ∈ (ixRows X').map (·.1) := by
      rw [(hpX.map (·.1)).mem_iff, hdrop]
      exact List.mem_cons_self ..
    refine ⟨p, hpp, ⟨h0, hx⟩, _, c0, ?_⟩
    refine spec.ix_Delete hX' (by omega) (fun hno => absurd hin hno) fun _ u' D2 X2 i1 i2 i3 _ _ i6 => ⟨fun hx => absurd rfl hx, fun _ => ⟨fun hx => absurd rfl hx, fun _ => ⟨⟨by omega, by omega⟩, ⟨by omega, D2, X2, i1, ?_, by omega⟩, by dsimp only; omega⟩⟩⟩
    rw [i3, show (x + 1).toNat = x.toNat + 1 by omega]
    refine (hpX.filter _).trans (List.Perm.of_eq ?_)
    have hnd : ((l.drop x.toNat).map (·.id)).Nodup := hrok.nodup.sublist ((List.drop_sublist _ _).map _)
    rw [hdrop] at hnd ⊢
    rw [List.map_cons, List.nodup_cons] at hnd
    rw [List.map_cons, List.filter_cons, if_neg (by simp [Rw.pr])]
    refine List.filter_eq_self.2 fun y hy => ?_
    obtain ⟨z, hz, rfl⟩ := List.mem_map.1 hy
    simp only [Rw.pr, bne_iff_ne, ne_eq]
    exact fun e => hnd.1 (List.mem_map.2 ⟨z, hz, e⟩)
  · obtain ⟨h0, D', X', hX', hpX, hgx⟩ := hI
    have e0 : ixRows X' = [] := by
      rw [List.drop_eq_nil_of_le (by omega)] at hpX
      exact List.perm_nil.1 hpX
    refine spec.emptySearch hX' (by omega) e0 (hq.mono hX'.base.1) fun sh ss sr x22 u23 l23 n1 n2 n3 => ?_
    intro K24 h24
    have i23 := hX'.mono l23
    refine spec.ix_Len i23 ?_
    rw [e0]
    refine ⟨fun hx => absurd rfl hx, fun _ => spec.ix_Rows i23 fun s55 ls u56 hR hpr _ => ?_⟩
    have n4 := hR.rws.len
    have n5 := hpr.length_eq
    rw [e0] at n5
    simp only [List.length_map, List.length_nil] at n5
    refine ⟨fun hx => absurd hx (by omega), fun _ => ⟨⟨by omega, by omega⟩, ⟨by omega, by omega⟩, fun hx => absurd hx (by omega), fun _ => h24 _ _ ?_⟩⟩
    refine spec.emptyTail (i23.mono hR.own.le) (by omega) e0 hTab hq hm (fun b' x s1 s2 s3 y u' l' hxy => ?_) (fun s1 s2 s3 u' D2 X2 d i2 hlen hH => ?_)
    · intro K35 h35
      have aw : C.theodolitelaw07_awake u' (fun (b47 : Bool) (u48 : H) => K b47 u48) := spec.theodolitelaw07_awake (hTab.mono l') fun u48 l48 => h _ (l'.trans l48)
      refine ⟨fun _ => aw, fun _ => ⟨fun _ => aw, fun hx => ⟨fun _ => aw, fun hy => ?_⟩⟩⟩
      rcases hxy with hn | hn
      · exact absurd hx hn
      · exact absurd hy hn
    · intro K35 h35
      have lu' := i2.base.1
      have aw : C.theodolitelaw07_awake u' (fun (b47 : Bool) (u48 : H) => K b47 u48) := spec.theodolitelaw07_awake (hTab.mono lu') fun u48 l48 => h _ (lu'.trans l48)
      refine ⟨fun _ => aw, fun _ => ⟨fun hx => absurd rfl hx, fun _ => ⟨fun hx => absurd rfl hx, fun _ => h35 _ _ ?_⟩⟩⟩
      refine spec.theodolitelaw07_awake (hTab.mono lu') fun u39 l39 => ⟨fun _ => ⟨fun _ => ?_, fun e => (by cases e)⟩, fun e => (by cases e)⟩
      refine spec.ix_Len (i2.mono l39) ?_
      rw [hlen]
      have hn := hH.len
      simp only [List.length_cons, List.length_nil] at hn
      obtain ⟨p, hpa, g, hg, c0, _⟩ := (hH.mono l39).at (x := 0) (by omega) (by omega)
      simp at hg
      subst hg
      have c0' : H.cell? u39 (p.add 0) = some (.int .i64 id) := by simpa using c0
      have kk : K (decide (id = id)) u39 := fin (decide_eq_true rfl) (lu'.trans l39)
      refine ⟨fun _ => ⟨fun _ => ?_, fun hx => absurd (by omega) hx⟩, fun hx => absurd rfl hx⟩
      exact ⟨⟨p, hpa, ⟨by omega, by omega⟩, ⟨_, c0', kk⟩, ⟨_, c0', kk⟩⟩, ⟨p, hpa, ⟨by omega, by omega⟩, _, c0', kk⟩⟩

end Go.Proofs.YtncninpdlpemgaaGreat

/- VcLawT9 -/
namespace Go.Proofs.YtncninpdlpemgaaGreat

def stepP (d : Int) (P : List Pr) (o : Cll) : List Pr :=
  if o.kind = 1 then (if mayErr o.rid o.v d (decide (o.rid ∈ P.map (·.1))) P.length = 0 then (o.rid, o.v) :: P.filter (fun x => x.1 != o.rid) else P)
  else if o.kind = 2 then P.filter (fun x => x.1 != o.id) else P

theorem stepP_perm {d : Int} {P Q : List Pr} {o : Cll} (h : P.Perm Q) : (stepP d P o).Perm (stepP d Q o) := by
  unfold stepP
  by_cases h1 : o.kind = 1
  · rw [if_pos h1, if_pos h1]
    have e1 : decide (o.rid ∈ P.map (·.1)) = decide (o.rid ∈ Q.map (·.1)) := decide_eq_decide.2 (h.map _).mem_iff
    rw [e1, h.length_eq]
    split
    · exact List.Perm.cons _ (h.filter _)
    · exact h
  · rw [if_neg h1, if_neg h1]
    split
    · exact h.filter _
    · exact h

theorem playP_perm {d : Int} : ∀ {ops : List Cll} {P Q : List Pr}, P.Perm Q → (ops.foldl (stepP d) P).Perm (ops.foldl (stepP d) Q) := by
  intro ops
  induction ops with
  | nil => intro P Q h; exact h
  | cons o ops ih => intro P Q h; exact ih (stepP_perm h)

theorem spec.plays {ub u : H} {D : Nat → Prop} {b : Nat} {X : Tr} {t : Sl} {ops : List Cll} {K : H → Prop} (h : Ix ub u D b X) (hf : (ixRows X).length ≤ 512) (hgas : ixGas X + ops.length ≤ 2700) (hTab : TabU ub) (hO : Ops ub t ops) (htn : t.n ≤ 17592186044416)
    (hK : ∀ u' D' X', Ix ub u' D' b X' → (ixRows X').length ≤ 512 → X'.dim = X.dim → X'.links = X.links → IxTurn u D u' D' → (ixRows X').Perm (ops.foldl (stepP X.dim) (ixRows X)) → ixGas X' ≤ ixGas X + ops.length → K u') : C.theodolitelaw07_plays (some ⟨b, 0, none⟩) t u K := by
  have hon := hO.len
  apply vc.theodolitelaw07_plays
  refine ⟨fun x v => 0 ≤ x ∧ ∃ D' X', Ix ub v D' b X' ∧ (ixRows X').length ≤ 512 ∧ X'.dim = X.dim ∧ X'.links = X.links ∧ IxTurn u D v D' ∧ (ixRows X').Perm ((ops.take x.toNat).foldl (stepP X.dim) (ixRows X)) ∧ (ixGas X' : Int) ≤ ixGas X + x ∧ x ≤ t.n, fun x _ => ((t.n : Int) - x).toNat, ⟨by omega, D, X, h, hf, rfl, rfl, IxTurn.mono (H.le.refl u), .refl _, by omega, by omega⟩, fun x v hI => ⟨fun hx => ?_, fun hx => ?_⟩⟩
  · obtain ⟨h0, D', X', hX, hf', hd, hl, ht, hP, hgx, hxt⟩ := hI
    obtain ⟨p, hp, o, ho, hmem, c0, c1, c2, c3, c4, c5, c6, hv, hq⟩ := (hO.mono hX.base.1).at h0 hx
    have etake : ops.take (x + 1).toNat = ops.take x.toNat ++ [o] := by
      rw [show (x + 1).toNat = x.toNat + 1 by omega, List.take_add_one, ho]
      rfl
    have next : ∀ {v' : H} {D2 : Nat → Prop} {X2 : Tr}, Ix ub v' D2 b X2 → (ixRows X2).length ≤ 512 → X2.dim = X'.dim → X2.links = X'.links → IxTurn v D' v' D2 → (ixRows X2).Perm (stepP X.dim (ixRows X') o) → ixGas X2 ≤ ixGas X' + 1 →
        InR (x + 1) ∧ (0 ≤ x + 1 ∧ ∃ D' X', Ix ub v' D' b X' ∧ (ixRows X').length ≤ 512 ∧ X'.dim = X.dim ∧ X'.links = X.links ∧ IxTurn u D v' D' ∧ (ixRows X').Perm ((ops.take (x + 1).toNat).foldl (stepP X.dim) (ixRows X)) ∧ (ixGas X' : Int) ≤ ixGas X + (x + 1) ∧ x + 1 ≤ t.n) ∧ ((t.n : Int) - (x + 1)).toNat < ((t.n : Int) - x).toNat := fun i1 i2 i3 i4 i5 i6 i7 =>
      ⟨⟨by omega, by omega⟩, ⟨by omega, _, _, i1, i2, i3.trans hd, i4.trans hl, ht.trans i5, by
        rw [etake, List.foldl_append]
        exact i6.trans (stepP_perm hP), by omega, by omega⟩, by omega⟩
    refine ⟨p, hp, ⟨h0, hx⟩, _, c0, fun k1 => ⟨p, hp, ⟨h0, hx⟩, _, c4, _, c5, ?_⟩, fun k1 => ⟨fun k2 => ⟨p, hp, ⟨h0, hx⟩, _, c1, ?_⟩, fun k2 => next hX hf' rfl rfl (IxTurn.mono (H.le.refl v)) (by
      unfold stepP
      rw [if_neg k1, if_neg k2]) (Nat.le_succ _)⟩⟩
    · refine spec.ix_PutB hX (by omega) hTab (hO.2 o hmem).1 (fun hne => next hX hf' rfl rfl (IxTurn.mono (H.le.refl v)) (by
        unfold stepP
        rw [if_pos k1, if_neg (by rw [← hd]; exact hne)]) (Nat.le_succ _)) fun he v' D2 X2 i1 i2 i3 i4 i5 i6 => next i1 (few_put hf' he i3) i4 i5 i2 (by
        unfold stepP
        rw [if_pos k1, if_pos (by rw [← hd]; exact he)]
        exact i3) i6
    · refine spec.ix_Delete hX (by omega) (fun hno v' lv => next (hX.mono lv) hf' rfl rfl (IxTurn.mono lv) (by
        unfold stepP
        rw [if_neg k1, if_pos k2]
        refine List.Perm.of_eq (List.filter_eq_self.2 fun y hy => ?_).symm
        simp only [bne_iff_ne, ne_eq]
        exact fun e => hno (List.mem_map.2 ⟨y, hy, e⟩)) (Nat.le_succ _)) fun _ v' D2 X2 i1 i2 i3 i4 i5 i6 => next i1 ?_ i4 i5 i2 (by
        unfold stepP
        rw [if_neg k1, if_pos k2, i3]) (Nat.le_succ_of_le i6)
      rw [i3]
      exact Nat.le_trans (List.length_filter_le _ _) hf'
  · obtain ⟨h0, D', X', hX, hf', hd, hl, ht, hP, hgx, hxt⟩ := hI
    rw [List.take_of_length_le (by omega)] at hP
    exact hK v D' X' hX hf' hd hl ht hP (by omega)

/-- A tree beside one that turns. -/
theorem Ix.beside {ub u u' : H} {D D' D2 : Nat → Prop} {b2 : Nat} {Y : Tr} (h : Ix ub u D2 b2 Y) (ht : IxTurn u D u' D') (hd : ∀ c, D c → ¬ D2 c) (hle : ub.le u') : Ix ub u' D2 b2 Y ∧ ∀ c, D' c → ¬ D2 c :=
  ⟨h.same (fun c o hc h2 => ht.keep c o hc fun h1 => hd c h1 h2) hle, fun c h1 h2 => by
    rcases ht.grow c h1 with h3 | h3
    · exact hd c h3 h2
    · exact h.base.2.2 c h2 h3⟩

theorem mkL_perm {P Q : List Pr} (h : P.Perm Q) : (mkL P).Perm (mkL Q) := h.map _

theorem rise_rows {ls : List Rw} {P : List Pr} (hp : (ls.map Rw.pr).Perm P) (hn : (P.map (·.1)).Nodup) (hs : ls.Pairwise fun a b => a.id ≤ b.id) : (ls.map Rw.pr).Pairwise fun a b => a.1 < b.1 := by
  rw [List.pairwise_map]
  have hnd : (ls.map (·.id)).Nodup := by
    rw [ids_pr]
    exact ((hp.map (·.1)).nodup_iff).2 hn
  rw [List.nodup_iff_pairwise_ne, List.pairwise_map] at hnd
  refine (hs.and hnd).imp fun {x y} hxy => ?_
  have := hxy.1
  have := hxy.2
  show x.id < y.id
  omega

end Go.Proofs.YtncninpdlpemgaaGreat

/- VcLawTA -/
namespace Go.Proofs.YtncninpdlpemgaaGreat

/-- A search with a budget for all: its error, its hits. -/
theorem spec.searchAll {u0 u : H} {D : Nat → Prop} {b : Nat} {X : Tr} {t : Sl} {q : List Int} {k : Int} {K : Sl → Sl → Sl → Int → H → Prop} (h : Ix u0 u D b X) (hf : (ixRows X).length ≤ 512) (hgas : ixGas X ≤ 2700) (ht : Ints u t q)
    (hK : ∀ sh ss sr u' L, u.le u' → Hts u' sh L → (askErr q X.dim k 1000000 = 0 → L = topk k.toNat ((mkL (ixRows X)).map (hitOf q))) → (askErr q X.dim k 1000000 ≠ 0 → L = []) → K sh ss sr (askErr q X.dim k 1000000) u') : C.kdtree_Tree__Search (some ⟨b, 0, none⟩) t k 1000000 u K := by
  refine spec.ix_Search h hgas ht (fun hne u' l => hK _ _ _ u' [] l (show Hts u' ⟨none, 0, 0⟩ [] from (OwnF.nil (H.le.refl u') 0 3).own.seg) (fun e => absurd e hne) fun _ => rfl) fun he sh ss sr rest u' ha _ => ?_
  have h2 := hK sh ss sr u' _ ha.le ha.read.h (fun _ => (ix_all h hf he (by rw [mkL_pr])).1) fun hne => absurd he hne
  rwa [he] at h2

theorem law.KdtreeBuilt {s t qs : Sl} {l : List Rw} {ops : List Cll} {q : List Int} {A B seed k : Int} {u : H} {K : Bool → H → Prop} (hTab : TabU u) (hc : Come2 u s t l ops) (hU : U64 seed) (hq : Ints u qs q) (h : ∀ u', u.le u' → K true u') :
    C.theodolitelaw07_KdtreeBuilt s A B seed t qs k u K := by
  have hqn := hq.len
  have hln := hc.rows.len
  have hsn := hc.sn
  apply vc.theodolitelaw07_KdtreeBuilt
  intro K0 h0
  refine spec.theodolitelaw07_big hc ⟨fun _ => h u (H.le.refl u), fun e => (by cases e)⟩ fun _ hol _ _ => ⟨fun e => (by cases e), fun _ => ⟨fun _ => h u (H.le.refl u), fun _ => h0 _ _ ?_⟩⟩
  have fin : ∀ {bb : Bool} {v : H}, bb = true → u.le v → K bb v := fun hb hv => by rw [hb]; exact h _ hv
  have aw : ∀ {v : H}, u.le v → C.theodolitelaw07_awake v (fun (b44 : Bool) (u45 : H) => K b44 u45) := fun lv => spec.theodolitelaw07_awake (hTab.mono lv) fun u' l' => h _ (lv.trans l')
  refine spec.ix_Build hc.rows hTab hU (fun hne => ?_) (fun he b D X u5 hX hp hdim hlinks hg0 => ?_)
  · refine spec.ix_Build (Rws.nil u) hTab hU (fun hne2 => ?_) (fun he2 b2 D2 Y u8 hY _ _ _ _ => ?_)
    · intro K9 h9
      exact ⟨fun _ => aw (H.le.refl u), fun e => absurd e hne⟩
    · intro K9 h9
      exact ⟨fun _ => aw hY.base.1, fun e => absurd e hne⟩
  · have l5 := hX.base.1
    refine spec.ix_Build (Rws.nil u5) (hTab.mono l5) hU (fun hne2 => ?_) (fun he2 b2 D2 Y u8 hY hpY hdimY _ hgY => ?_)
    · intro K9 h9
      exact ⟨fun hx => absurd rfl hx, fun _ => ⟨fun _ => aw l5, fun e => absurd e hne2⟩⟩
    · intro K9 h9
      refine ⟨fun hx => absurd rfl hx, fun _ => ⟨fun hx => absurd rfl hx, fun _ => ⟨fun e => (by cases e), fun _ => ⟨fun e => (by cases e), fun _ => h9 _ _ ?_⟩⟩⟩⟩
      have hX8 := hX.mono hY.base.1
      have hd8 : ∀ c, D2 c → ¬ D c := fun c h2 h1 => hX.base.2.2 c h1 (hY.base.2.1 c h2)
      have hY8 := hY.rebase l5
      have hfX := ixErr_few he hp
      have hrok := ixErr_rok he
      refine ⟨⟨by omega, by omega⟩, fun x v => -1 ≤ x ∧ x < s.n ∧ ∃ D2' Y', Ix u v D b X ∧ Ix u v D2' b2 Y' ∧ (∀ c, D2' c → ¬ D c) ∧ Y'.dim = s.n * 0 + Y.dim ∧ (ixRows Y').Perm ((l.drop (x + 1).toNat).map Rw.pr) ∧ (ixGas Y' : Int) ≤ s.n - 1 - x, fun x _ => (x + 1).toNat, ⟨by omega, by omega, D2, Y, hX8, hY8, hd8, by omega, ?_, by omega⟩, fun x v hI => ⟨fun hx => ?_, fun hx => ?_⟩⟩
      · rw [List.drop_eq_nil_of_le (by omega)]
        exact hpY
      · obtain ⟨_, h1, D2', Y', hXv, hYv, hdv, hdY, hpv, hgv⟩ := hI
        have hxl : x.toNat < l.length := by omega
        obtain ⟨p, hpp, r, hr, c0, c1, _⟩ := (hc.rows.mono hXv.base.1).at hx h1
        have er : l[x.toNat] = r := (List.getElem?_eq_some_iff.1 hr).2
        have hmem : r ∈ l := List.mem_of_getElem? hr
        have hdrop : l.drop x.toNat = r :: l.drop (x + 1).toNat := by
          rw [show (x + 1).toNat = x.toNat + 1 by omega, List.drop_eq_getElem_cons hxl, er]
        have hnd : ((l.drop x.toNat).map (·.id)).Nodup := hrok.nodup.sublist ((List.drop_sublist _ _).map _)
        rw [hdrop, List.map_cons, List.nodup_cons] at hnd
        have hno : r.id ∉ (ixRows Y').map (·.1) := by
          rw [(hpv.map (·.1)).mem_iff, ← ids_pr]
          exact hnd.1
        have hlenY := hpv.length_eq
        rw [List.length_map, List.length_drop] at hlenY
        have hlen := hrok.len
        refine ⟨p, hpp, ⟨hx, h1⟩, _, c0, _, c1, ?_⟩
        refine spec.ix_PutB hYv (by omega) hTab (hc.rows.2 r hmem) (fun hne => absurd ?_ hne) fun _ v' D3 Y3 i1 i2 i3 i4 i5 i6 => ?_
        · have hri := hrok.id r hmem
          obtain ⟨hvl, hvo⟩ := hrok.v r hmem
          have hvc : vcheck r.v Y'.dim = 0 := by
            rw [hdY, hdimY, show (s.n : Int) * 0 + (qs.n : Int) = r.v.length by omega]
            exact ok_vcheck hvo (by have := hrok.dim; omega)
          unfold mayErr
          rw [if_neg (by omega), if_neg (by rw [hvc]; simp), if_neg (by omega)]
        · obtain ⟨hX3, hd3⟩ := hXv.beside i2 hdv i1.base.1
          refine ⟨⟨by omega, by omega⟩, ⟨by omega, by omega, D3, Y3, hX3, i1, hd3, by omega, ?_, by omega⟩, by dsimp only; omega⟩
          rw [show (x - 1 + 1).toNat = x.toNat by omega, hdrop]
          refine i3.trans (List.Perm.cons _ ?_)
          refine (List.Perm.of_eq (List.filter_eq_self.2 fun y hy => ?_)).trans hpv
          simp only [bne_iff_ne, ne_eq]
          exact fun e => hno (List.mem_map.2 ⟨y, hy, e⟩)
      · obtain ⟨_, h1, D2', Y', hXv, hYv, hdv, hdY, hpv, hgv⟩ := hI
        rw [show (x + 1).toNat = 0 by omega, List.drop_zero] at hpv
        have hpXY : (ixRows X).Perm (ixRows Y') := hp.trans hpv.symm
        have hdXY : Y'.dim = X.dim := by omega
        have hl512 := hrok.len
        refine spec.plays hXv hfX (by omega) hTab hc.calls hc.tn fun u22 D4 X4 j1 j2 j3 _ j5 j6 j7 => ?_
        obtain ⟨hY22, hd22⟩ := hYv.beside j5 (fun c h1 h2 => hdv c h2 h1) j1.base.1
        refine spec.plays hY22 (by rw [← hpXY.length_eq]; exact hfX) (by omega) hTab hc.calls hc.tn fun u23 D5 Y5 k1 k2 k3 _ k5 k6 k7 => ?_
        obtain ⟨hX23, hd23⟩ := j1.beside k5 (fun c h1 h2 => hd22 c h2 h1) k1.base.1
        have hR : (ixRows X4).Perm (ixRows Y5) := by
          refine j6.trans (List.Perm.trans ?_ k6.symm)
          rw [hdXY]
          exact playP_perm hpXY
        have hdd : Y5.dim = X4.dim := by omega
        have l23 := k1.base.1
        refine spec.searchAll hX23 j2 (by omega) (hq.mono l23) fun sh ss sr u28 L1 l28 hH1 e1 e1' => ?_
        refine spec.searchAll (k1.mono l28) k2 (by omega) (hq.mono (l23.trans l28)) fun sh2 ss2 sr2 u33 L2 l33 hH2 e2 e2' => ?_
        rw [hdd] at e2 e2' ⊢
        have eL : L1 = L2 := by
          by_cases he : askErr q X4.dim k 1000000 = 0
          · rw [e1 he, e2 he]
            exact topk_eq ((mkL_perm hR).map _)
          · rw [e1' he, e2' he]
        have l33' := (l23.trans l28).trans l33
        refine spec.theodolitelaw07_awake (hTab.mono l33') fun u35 l35 => ⟨fun _ => ⟨fun _ => ?_, fun hx => absurd rfl hx⟩, fun e => (by cases e)⟩
        refine spec.theodolitekeep_Hits (hH1.mono (l33.trans l35)) (hH2.mono l35) ⟨fun _ => ?_, fun hb => (by rw [decide_eq_true eL] at hb; cases hb)⟩
        have l35' := (l28.trans l33).trans l35
        refine spec.ix_Rows (hX23.mono l35') fun s38 ls u39 hR1 hp1 hs1 => ?_
        refine spec.ix_Rows ((k1.mono l35').mono hR1.own.le) fun s40 ls2 u41 hR2 hp2 hs2 => ?_
        refine spec.theodolitekeep_Rows (hR1.rws.mono hR2.own.le) hR2.rws (fin (decide_eq_true ?_) ?_)
        · exact pr_rise_eq (rise_rows hp1 hX23.rowsOk hs1) (rise_rows hp2 k1.rowsOk hs2) (hp1.trans (hR.trans hp2.symm))
        · exact ((l23.trans l35').trans hR1.own.le).trans hR2.own.le

end Go.Proofs.YtncninpdlpemgaaGreat
