/- Texts of mine, joined by merge.py: VcIv4, VcIv5, VcConc, VcIv6, VcPop, VcRest, VcWlk0, VcWlk1, VcWlk2, VcWlk3, VcWlk4, VcWlk5, VcIv7, VcVcs, VcTrain0, VcTrain1, VcRangeG, VcRangeM, VcPerm. -/
import Derived.Test.YtljbcihbgeiacaaGreatMne7
import Derived.OpenShut
set_option maxRecDepth 100000

/- VcIv4 -/
namespace Go.Proofs.YtljbcihbgeiacaaGreat.Iv

theorem sem_append_none {P : Program} {t ty e : TypeId} {size bytes : Nat} {zs : List Value} (hT : elemT P t = some (e, size, bytes, zs)) {s x : Sl} {u : H} {K : Sl → H → Prop} (hs : s.n ≤ s.c) (hx : x.n = 0) (hK : K s u) :
    SemT P (Builtin.append_ #[t, t] ty #[.slice s.a s.n s.c, .slice x.a x.n x.c]) [.one .slice] u K := by
  obtain ⟨ht, i, z, hi, hz, hsize, hby, hzs, _⟩ := elemT_spec hT
  refine .one' (c := .slice) s (fun w hw => ?_) hK
  have hl : ∀ (y : Addr), (loadCells y 0).run P w = .ok #[] w := fun y => by simpa using run_loadCells_list (P := P) w y [] (by simp)
  rw [hx]
  cases hsa : s.a <;> cases hxa : x.a <;> simp [Builtin.append_, run_underlying ht, sizeOf, typeInfo, hi, Builtin.lenOf, Builtin.firstCells, hs, CT.enc, hsa, hl, storeCells]

theorem part_blk {s : Sl} {l h m k : Nat} {g : Nat} (hg : (s.part l h m k).blk = some g) : s.blk = some g := by
  unfold Sl.part Sl.blk at *
  simp only at hg
  split at hg
  · exact hg
  · cases ha : s.a with
    | none => rw [ha] at hg; simp at hg
    | some p =>
      rw [ha] at hg
      simp only [Option.map_some] at hg ⊢
      have : (p.add (l * k)).block = p.block := by unfold Addr.add; split <;> rfl
      rw [this] at hg
      exact hg

/-- A row is cut out of a list. -/
theorem ls_cut {u : H} {s : Sl} {l : List Rw} {i : Nat} {ty : TypeId} {K : Sl → H → Prop} (h : Seg u s 2 (l.flatMap encR)) (hi : i < l.length) (hl : l.length ≤ 1000000)
    (hK : ∀ s' u', u.le u' → LsAt u' s' (l.take i ++ l.drop (i + 1)) → (∀ g, s'.blk = some g → s.blk = some g ∨ (u g = none ∧ u' g ≠ none)) → K s' u') :
    SemT Tryz.prog (Builtin.append_ #[22, 22] ty #[.slice (s.part 0 i i 2).a (s.part 0 i i 2).n (s.part 0 i i 2).c, .slice (s.part (i + 1) s.n s.c 2).a (s.part (i + 1) s.n s.c 2).n (s.part (i + 1) s.n s.c 2).c]) [.one .slice] u K := by
  have hn : s.n = l.length := flat_n encR_len (by decide) h
  have hc := h.cap
  have s1 : Seg u (s.part 0 i i 2) 2 ((l.take i).flatMap encR) := by
    have := Seg.part h (l := 0) (h := i) (m := i) (by omega) (by omega) (Nat.le_refl _) (by omega)
    rw [Nat.zero_mul, List.drop_zero, Nat.sub_zero, flat_take encR_len] at this
    exact this
  have s2 : Seg u (s.part (i + 1) s.n s.c 2) 2 ((l.drop (i + 1)).flatMap encR) := by
    have := Seg.part h (l := i + 1) (h := s.n) (m := s.c) (by omega) (Nat.le_refl _) hc (Nat.le_refl _)
    rw [flat_drop encR_len, flat_take encR_len, List.take_of_length_le (by rw [List.length_drop]; omega)] at this
    exact this
  have n1 : (s.part 0 i i 2).n = i := by simp [Sl.part]
  have c1 : (s.part 0 i i 2).c = i := by simp [Sl.part]
  have n2 : (s.part (i + 1) s.n s.c 2).n = s.n - (i + 1) := rfl
  by_cases h0 : (s.part (i + 1) s.n s.c 2).n = 0
  · have hd : l.drop (i + 1) = [] := List.drop_eq_nil_of_le (by omega)
    refine sem_append_none tRows (by omega) h0 (hK _ u (H.le.refl u) ?_ fun g hg => .inl (part_blk hg))
    rw [hd, List.append_nil]
    exact ⟨s1, .inr (by omega)⟩
  · have hxa : (s.part (i + 1) s.n s.c 2).a ≠ none := by
      rcases s2.at' with h1 | ⟨p, hp, _⟩
      · have := s2.len
        rw [h1] at this
        simp only [List.length_nil] at this
        omega
      · rw [hp]; simp
    refine sem_append_new tRows s1 s2 (by omega) (seg_nil_full s1 (by omega) (by decide)) hxa (by omega) (by omega) fun g c cur hg ho => hK _ _ (H.le_ins _ hg) ?_ fun g2 hg2 => ?_
    · rw [← List.flatMap_append] at ho
      exact ⟨ho.seg, .inl ho⟩
    · have : g2 = g := by simpa [Sl.blk] using hg2.symm
      rw [this]
      exact .inr ⟨hg, by rw [H.ins_same]; simp⟩

theorem cut_filter {l : List Rw} {i : Nat} {r : Rw} {id : Int} (hnd : (l.map (·.id)).Nodup) (h : l[i]? = some r) (hr : r.id = id) : l.take i ++ l.drop (i + 1) = l.filter fun x => x.id != id := by
  induction l generalizing i with
  | nil => simp at h
  | cons x l ih =>
    rw [List.map_cons, List.nodup_cons] at hnd
    cases i with
    | zero =>
      simp only [List.getElem?_cons_zero, Option.some.injEq] at h
      subst h
      simp only [List.take_zero, List.nil_append, List.drop_succ_cons, List.drop_zero, List.filter_cons, hr, bne_self_eq_false, Bool.false_eq_true, if_false]
      refine (List.filter_eq_self.2 fun y hy => ?_).symm
      have : y.id ≠ id := fun e => hnd.1 (List.mem_map.2 ⟨y, hy, by rw [e, hr]⟩)
      simpa using this
    | succ i =>
      simp only [List.getElem?_cons_succ] at h
      have hx : x.id ≠ id := fun e => hnd.1 (List.mem_map.2 ⟨r, List.mem_of_getElem? h, by rw [hr, e]⟩)
      rw [List.take_succ_cons, List.drop_succ_cons, List.cons_append, ih hnd.2 h, List.filter_cons, if_pos (by simpa using hx)]

theorem set_cut {ls : List (Sl × List Rw)} {k i : Nat} {l : Sl × List Rw} {r : Rw} {id : Int} (hnd : ((ls.flatMap (·.2)).map (·.id)).Nodup) (h : ls[k]? = some l) (hi : l.2[i]? = some r) (hr : r.id = id) (s' : Sl) :
    (ls.set k (s', l.2.take i ++ l.2.drop (i + 1))).flatMap (·.2) = (ls.flatMap (·.2)).filter fun x => x.id != id := by
  induction ls generalizing k with
  | nil => simp at h
  | cons x ls ih =>
    rw [List.flatMap_cons, List.map_append, List.nodup_append] at hnd
    obtain ⟨h1, h2, h3⟩ := hnd
    have self : ∀ {m : List Rw}, (∀ y ∈ m, y.id ≠ id) → m.filter (fun x => x.id != id) = m := fun hm => List.filter_eq_self.2 fun y hy => by simpa using hm y hy
    cases k with
    | zero =>
      simp only [List.getElem?_cons_zero, Option.some.injEq] at h
      subst h
      rw [List.set_cons_zero, List.flatMap_cons, List.flatMap_cons, List.filter_append, cut_filter h1 hi hr]
      congr 1
      exact (self fun y hy e => h3 r.id (List.mem_map.2 ⟨r, List.mem_of_getElem? hi, rfl⟩) y.id (List.mem_map.2 ⟨y, hy, rfl⟩) (by rw [e, hr])).symm
    | succ k =>
      simp only [List.getElem?_cons_succ] at h
      rw [List.set_cons_succ, List.flatMap_cons, List.flatMap_cons, List.filter_append, ih h2 h]
      congr 1
      refine (self fun y hy e => h3 y.id (List.mem_map.2 ⟨y, hy, rfl⟩) r.id (List.mem_map.2 ⟨r, List.mem_flatMap.2 ⟨l, List.mem_of_getElem? h, List.mem_of_getElem? hi⟩, rfl⟩) (by rw [e, hr])).symm

theorem where_filter (w : List (Int × Nat)) (id : Int) : (whereL w).filter (fun p => p.1 != id) = whereL (w.filter fun p => p.1 != id) := by
  unfold whereL
  rw [List.filter_map]
  rfl

end Go.Proofs.YtljbcihbgeiacaaGreat.Iv

/- VcIv5 -/
namespace Go.Proofs.YtljbcihbgeiacaaGreat.Iv

theorem bDel1 : hasBody Tryz.prog 62 = true := by kernel_rfl

theorem TrAt.wnodup {fp : Nat → Option Tg} {u : H} {b : Nat} {T : Tr} (h : TrAt fp u b T) : (T.w.map (·.1)).Nodup := by
  obtain ⟨es, c, _, he⟩ := h.map
  have := he.nodup
  unfold whereL at this
  rw [List.map_map] at this
  exact this

theorem TOk.wids {T : Tr} (h : TOk T) {id : Int} : id ∈ T.w.map (·.1) ↔ id ∈ (T.ls.flatMap (·.2)).map (·.id) := by
  constructor
  · intro hm
    obtain ⟨p, hp, e⟩ := List.mem_map.1 hm
    obtain ⟨l, hl, hid⟩ := (h.wh p.1 p.2).1 hp
    obtain ⟨r, hr, e2⟩ := List.mem_map.1 hid
    exact List.mem_map.2 ⟨r, List.mem_flatMap.2 ⟨l, List.mem_of_getElem? hl, hr⟩, by rw [e2, e]⟩
  · intro hm
    obtain ⟨r, hr, e⟩ := List.mem_map.1 hm
    obtain ⟨l, hl, hrl⟩ := List.mem_flatMap.1 hr
    obtain ⟨i, hi, rfl⟩ := List.getElem_of_mem hl
    exact List.mem_map.2 ⟨(id, i), (h.wh id i).2 ⟨_, List.getElem?_eq_getElem hi, List.mem_map.2 ⟨r, hrl, e⟩⟩, rfl⟩

theorem ixRows_ids (T : Tr) : (ixRows T).map (·.1) = (T.ls.flatMap (·.2)).map (·.id) := by unfold ixRows; rw [List.map_map]; rfl

theorem key_one {w : List (Int × Nat)} (hn : (w.map (·.1)).Nodup) {x : Int} {i j : Nat} (h1 : (x, i) ∈ w) (h2 : (x, j) ∈ w) : (x, i) = (x, j) := by
  induction w with
  | nil => cases h1
  | cons p w ih =>
    rw [List.map_cons, List.nodup_cons] at hn
    rcases List.mem_cons.1 h1 with h3 | h3
    · rcases List.mem_cons.1 h2 with h4 | h4
      · rw [h3, h4]
      · exact absurd (List.mem_map.2 ⟨_, h4, by rw [← h3]⟩) hn.1
    · rcases List.mem_cons.1 h2 with h4 | h4
      · exact absurd (List.mem_map.2 ⟨_, h3, by rw [← h4]⟩) hn.1
      · exact ih hn.2 h3 h4

/-- What a deletion leaves. -/
structure DelRes (u0 u : H) (fp : Nat → Option Tg) (b : Nat) (T : Tr) (id : Int) (u' : H) (fp' : Nat → Option Tg) (T' : Tr) : Prop where
  is : In u0 u' fp' b T'
  turn : TurnG u fp u' fp'
  ok : TOk T'
  rows : ixRows T' = (ixRows T).filter fun x => x.1 != id
  dim : T'.dim = T.dim
  cs : T'.cs = T.cs
  w : T'.w = T.w.filter fun p => p.1 != id

theorem spec.Delete {u0 u : H} {fp : Nat → Option Tg} {b : Nat} {T : Tr} {id : Int} {K : Bool → Int → H → Prop} (h : In u0 u fp b T) (hT : TOk T) (hno : id ∉ T.w.map (·.1) → ∀ u', u.le u' → K false 0 u')
    (hyes : id ∈ T.w.map (·.1) → ∀ u' fp' T', DelRes u0 u fp b T id u' fp' T' → K true 0 u') : C.ivf_Tree__Delete (some ⟨b, 0, none⟩) id u K := by
  apply vc.ivf_Tree__Delete
  intro n0 hn0
  have le1 : u.le (u.ins n0 (.cells #[.int .i64 id] 3 (0, 0))) := H.le_ins _ hn0
  have b0 : (u.ins n0 (.cells #[.int .i64 id] 3 (0, 0))) n0 = some (.cells #[.int .i64 id] 3 (0, 0)) := H.ins_same _ _ _
  have h1 := h.mono keep le1
  have hn0f : fp n0 = none := h.fresh hn0
  obtain ⟨u1, hu1⟩ : ∃ u1, u1 = u.ins n0 (.cells #[.int .i64 id] 3 (0, 0)) := ⟨_, rfl⟩
  rw [← hu1] at le1 b0 h1 ⊢
  obtain ⟨c0, c1, c2, c3⟩ := tree_cells h1.tr
  refine ⟨fun e => (by cases e), fun _ => ⟨_, rfl, _, c3, _, H.cell?_of b0 0, ?_⟩⟩
  refine sem_get2 whTy h1.tr.map (ct := .int .i64) (((getW T.w id).getD 0 : Nat) : Int) (by rw [getL_where]; cases getW T.w id <;> rfl) ?_
  have hsome : (getL (whereL T.w) id).isSome = decide (id ∈ T.w.map (·.1)) := by
    rw [getL_where, Option.isSome_map]
    cases e : getW T.w id with
    | none => rw [decide_eq_false (getW_none.1 e)]; rfl
    | some k => rw [decide_eq_true (List.mem_map.2 ⟨_, getW_mem e, rfl⟩)]; rfl
  rw [hsome]
  refine ⟨fun hb => ?_, fun hb => ?_⟩
  · exact hno (fun hm => hb (decide_eq_true hm)) _ le1
  have hin : id ∈ T.w.map (·.1) := of_decide_eq_true hb
  have hyes := hyes hin
  obtain ⟨k, hk⟩ : ∃ k, getW T.w id = some k := by
    cases e : getW T.w id with
    | none => exact absurd hin (getW_none.1 e)
    | some k => exact ⟨k, rfl⟩
  rw [hk, Option.getD_some]
  obtain ⟨l, hl, hidl⟩ := (hT.wh id k).1 (getW_mem hk)
  have hkl : k < T.ls.length := (List.getElem?_eq_some_iff.1 hl).1
  have hlsn := h1.tr.ls_len
  obtain ⟨hL, hLtag, hLrows⟩ := h1.tr.list k l hl
  obtain ⟨p, hp, hc⟩ := Seg.elem encSL_len (by decide) h1.tr.larr.seg hl
  have hcl := hc 0 _ rfl
  rw [Addr.add_zero'] at hcl
  have hpb : ∃ g cur, T.sl.a = some ⟨g, 0, none⟩ ∧ u1 g = some (.cells cur 22 (0, 0)) ∧ T.sl.blk = some g := by
    rcases h1.tr.larr.is with e1 | ⟨g, cur, e1, e2, _⟩
    · rw [e1] at hp; cases hp
    · exact ⟨g, cur, e1, e2, by simp [Sl.blk, e1]⟩
  obtain ⟨g, cur, hga, hgu, hgb⟩ := hpb
  have hgt := h1.tr.lblk g hgb
  obtain rfl : p = ⟨g, 0, none⟩ := by rw [hga] at hp; exact (Option.some.inj hp).symm
  have nl : ∀ {c t}, fp c = some t → t ≠ .list k → l.1.blk ≠ some c := fun hc ht e => ht (by have := hLtag _ e; rw [hc] at this; exact Option.some.inj this)
  refine ⟨_, rfl, _, c3, _, H.cell?_of b0 0, sem_del whTy h1.tr.map fun o hm => ?_⟩
  have hmN : ∀ c, fp c ≠ some .map → c ≠ T.m := fun c hc e => hc (by rw [e]; exact h1.tr.mtag)
  have e1 : ∀ c x, u1 c = some x → fp c ≠ some .map → (u1.ins T.m o) c = some x := fun c x hx h3 => by rw [H.ins_other _ _ (hmN c h3)]; exact hx
  obtain ⟨v, hv⟩ : ∃ v, v = u1.ins T.m o := ⟨_, rfl⟩
  rw [← hv] at hm e1 ⊢
  have vnone : ∀ c, v c = none → u1 c = none := fun c hc => by
    by_cases e : c = T.m
    · rw [hv, e, H.ins_same] at hc; cases hc
    · rw [hv, H.ins_other _ _ e] at hc; exact hc
  have cb : v b = some (.cells (treeC T).toArray 98 (0, 0)) := e1 _ _ h1.tr.cell (by rw [h1.tr.btag]; simp)
  have hgv := e1 g _ hgu (by rw [hgt]; simp)
  have hclv : v.cell? (Addr.add ⟨g, 0, none⟩ (k * 1)) = some (.slice l.1.a l.1.n l.1.c) := by
    rw [Addr.add_lit] at hcl ⊢
    unfold H.cell? at hcl ⊢
    simp only [hgu, hgv] at hcl ⊢
    exact hcl
  have hn0v : v n0 = some (.cells #[.int .i64 id] 3 (0, 0)) := e1 _ _ b0 (by rw [hn0f]; simp)
  have hsegv : Seg v l.1 2 (l.2.flatMap encR) := Seg.else hL.seg fun c x hc hx => e1 c x hx (by rw [hLtag c hc]; simp)
  have hln : l.1.n = l.2.length := flat_n encR_len (by decide) hsegv
  have hLl : l.2.length < 1000000 := by
    have h1 := (sub_sum (f := fun l : Sl × List Rw => l.2) (List.mem_of_getElem? hl)).length_le
    rw [← hT.wlen] at h1
    have := hT.small
    omega
  have hlnd : (l.2.map (·.id)).Nodup := hT.nodup.sublist ((sub_sum (f := fun l : Sl × List Rw => l.2) (List.mem_of_getElem? hl)).map _)
  refine ⟨_, rfl, T.sl, H.cell?_of cb 2, _, hga, ⟨by omega, by omega⟩, l.1, by rw [Int.toNat_natCast]; exact hclv, ?_⟩
  refine spec.slices_IndexFunc__api_Row_ (p := fun r => decide (r.id = id)) (l := l.2) hsegv (fun r w K' hw hk' => .inl ⟨_, _, _, rfl, bodyOf bDel1, vc.ivf_Tree__Delete_1 _ _ _ _ _ ⟨_, H.cell?_of (hw _ _ hn0v) 0, hk'⟩⟩) (H.le.refl v) (fun i r hr _ hpr => ?_) fun hN => (by
    obtain ⟨r, hr, e⟩ := List.mem_map.1 hidl
    have := of_decide_eq_false (hN r hr)
    exact absurd e this)
  have hrid : r.id = id := of_decide_eq_true hpr
  have hil : i < l.2.length := (List.getElem?_eq_some_iff.1 hr).1
  -- behind the cut
  have fin : ∀ {ty : TypeId}, SemT Tryz.prog (Builtin.append_ #[22, 22] ty #[.slice (l.1.part 0 i i 2).a (l.1.part 0 i i 2).n (l.1.part 0 i i 2).c, .slice (l.1.part (i + 1) l.1.n l.1.c 2).a (l.1.part (i + 1) l.1.n l.1.c 2).n (l.1.part (i + 1) l.1.n l.1.c 2).c]) [.one .slice] v
      fun s23 u24 => v.le u24 ∧ ∃ r25 : Addr, T.sl.a = some r25 ∧ ((0 : Int) ≤ (k : Int) ∧ (k : Int) < (T.sl.n : Int)) ∧ H.St u24 (r25.add ((k : Int).toNat * 1)) [.slice s23.a s23.n s23.c] fun u26 => K true 0 u26 := by
    intro ty
    refine ls_cut hsegv hil (by omega) fun s' u2 l2 hL' hb' => ⟨l2, _, hga, ⟨by omega, by omega⟩, ?_⟩
    have hla2 : Own u2 22 1 T.sl (T.ls.flatMap fun l => encS l.1) := h1.tr.larr.le fun c o hc hu => l2 _ _ (e1 c o hu (by rw [h1.tr.lblk c hc]; simp))
    rw [Int.toNat_natCast]
    refine OwnF.store (enc := fun l : Sl × List Rw => encS l.1) encSL_len hla2.f (by decide) (i := k) hkl (y := (s', l.2.take i ++ l.2.drop (i + 1))) (by simp [encS, Value.oneCell']) hga fun u3 ho3 he3 hn3 => ?_
    have hs'g : s'.blk ≠ some g := fun e => by
      rcases hb' g e with h2 | h2
      · exact nl hgt (by simp) h2
      · rw [hgv] at h2; cases h2.1
    have e3 : ∀ c x, u c = some x → fp c ≠ some .larr → fp c ≠ some .map → u3 c = some x := fun c x hx h2 h3 => he3 c x (l2 _ _ (e1 c x (le1 _ _ hx) h3)) fun e => h2 (h1.tr.lblk c e)
    have e31 : ∀ c x, u1 c = some x → fp c ≠ some .larr → fp c ≠ some .map → u3 c = some x := fun c x hx h2 h3 => he3 c x (l2 _ _ (e1 c x hx h3)) fun e => h2 (h1.tr.lblk c e)
    have hnew : ∀ c, s'.blk = some c → fp c = some (.list k) ∨ (fp c = none ∧ u c = none ∧ u2 c ≠ none) := fun c hc => by
      rcases hb' c hc with h2 | h2
      · exact .inl (hLtag c h2)
      · have h3 := vnone c h2.1
        exact .inr ⟨h1.fresh h3, le1.none h3, h2.2⟩
    have hL3 : LsAt u3 s' (l.2.take i ++ l.2.drop (i + 1)) := hL'.keep fun c x hc hx => he3 c x hx fun e => hs'g (by
      have : c = g := by rw [hgb] at e; exact (Option.some.inj e).symm
      rw [hc, this])
    let fp' : Nat → Option Tg := fun c => open Classical in if s'.blk = some c then some (.list k) else if l.1.blk = some c then none else fp c
    have f2 : ∀ c, s'.blk = some c → fp' c = some (.list k) := fun c hc => if_pos hc
    have f1 : ∀ c, fp c ≠ none → fp c ≠ some (.list k) → fp' c = fp c := fun c hc h2 => by
      have h4 : s'.blk ≠ some c := fun e => by
        rcases hnew c e with h3 | h3
        · exact h2 h3
        · exact hc h3.1
      show (if s'.blk = some c then _ else _) = _
      rw [if_neg h4, if_neg fun e => h2 (hLtag c e)]
    have f3 : ∀ c, fp' c ≠ none → (s'.blk = some c ∧ (fp c ≠ none ∨ u c = none)) ∨ (s'.blk ≠ some c ∧ l.1.blk ≠ some c ∧ fp c ≠ none) := fun c hc => by
      by_cases e : s'.blk = some c
      · exact .inl ⟨e, (hnew c e).imp (fun h1 => by rw [h1]; simp) fun h1 => h1.2.1⟩
      · by_cases e2 : l.1.blk = some c
        · have : fp' c = none := by
            show (if s'.blk = some c then _ else _) = _
            rw [if_neg e, if_pos e2]
          exact absurd this hc
        · have : fp' c = fp c := by
            show (if s'.blk = some c then _ else _) = _
            rw [if_neg e, if_neg e2]
          rw [this] at hc
          exact .inr ⟨e, e2, hc⟩
    have hsub : ∀ r' ∈ l.2.take i ++ l.2.drop (i + 1), r' ∈ l.2 := fun r' hr' => by
      rcases List.mem_append.1 hr' with h2 | h2
      · exact List.mem_of_mem_take h2
      · exact List.mem_of_mem_drop h2
    have rowsAt : ∀ r' ∈ l.2.take i ++ l.2.drop (i + 1), Ints u3 r'.s r'.v ∧ ∀ c, r'.s.blk = some c → fp' c = some .vec := by
      intro r' hr'
      obtain ⟨i1, i2⟩ := hLrows r' (hsub r' hr')
      exact ⟨Seg.else i1 fun c x hc hx => e31 c x hx (by rw [i2 c hc]; simp) (by rw [i2 c hc]; simp), fun c hc => by rw [f1 c (by rw [i2 c hc]; simp) (by rw [i2 c hc]; simp)]; exact i2 c hc⟩
    have hm3 : MapAt u3 T.m (whereL (T.w.filter fun p => p.1 != id)) := by
      rw [← where_filter]
      exact hm.else fun x hx => he3 _ x (l2 _ _ hx) fun e => by
        have := h1.tr.lblk _ e
        rw [h1.tr.mtag] at this; cases this
    have hTr := h1.tr.relist (i := k) (w' := T.w.filter fun p => p.1 != id) hL3 f2 rowsAt ho3.own hm3 (fun c x hc _ h2 _ h4 => e31 c x hc h2 h4) f1
    have u0le : u0.le u3 := fun c x hc => by
      have hf : fp c = none := by
        cases e : fp c with
        | none => rfl
        | some t => have := h.out c (by rw [e]; simp); rw [hc] at this; cases this
      exact e3 c x (h.le c x hc) (by rw [hf]; simp) (by rw [hf]; simp)
    have hrows := set_cut hT.nodup hl hr hrid s'
    have each : ∀ {j : Nat} {y : Sl × List Rw}, (T.ls.set k (s', l.2.take i ++ l.2.drop (i + 1)))[j]? = some y → (j = k ∧ y = (s', l.2.take i ++ l.2.drop (i + 1))) ∨ (j ≠ k ∧ T.ls[j]? = some y) := fun {j y} hy => by
      by_cases e : j = k
      · subst e
        rw [List.getElem?_set_self (by omega)] at hy
        exact .inl ⟨rfl, (Option.some.inj hy).symm⟩
      · rw [List.getElem?_set_ne (Ne.symm e)] at hy
        exact .inr ⟨e, hy⟩
    have memS : ∀ y ∈ T.ls.set k (s', l.2.take i ++ l.2.drop (i + 1)), ∀ r' ∈ y.2, ∃ z ∈ T.ls, r' ∈ z.2 := fun y hy r' hr' => by
      have : r' ∈ (T.ls.flatMap (·.2)).filter fun x => x.id != id := by rw [← hrows]; exact List.mem_flatMap.2 ⟨y, hy, hr'⟩
      obtain ⟨z, hz, hrz⟩ := List.mem_flatMap.1 (List.mem_filter.1 this).1
      exact ⟨z, hz, hrz⟩
    refine hyes _ fp' { T with ls := T.ls.set k (s', l.2.take i ++ l.2.drop (i + 1)), w := T.w.filter fun p => p.1 != id } ⟨⟨hTr, u0le, fun c hc => ?_, fun c hc => ?_⟩, ⟨fun c x hc hf => e3 c x hc (by rw [hf]; simp) (by rw [hf]; simp), fun c hc => ?_⟩, ?_, ?_, rfl, rfl, rfl⟩
    · rcases f3 c hc with ⟨_, h1 | h1⟩ | ⟨_, _, h1⟩
      · exact h.out c h1
      · exact h.le.none h1
      · exact h.out c h1
    · rcases f3 c hc with ⟨h2, _⟩ | ⟨_, h2, h3⟩
      · rcases hnew c h2 with h5 | ⟨_, _, h5⟩
        · obtain ⟨x, hx⟩ := Option.ne_none_iff_exists'.1 (h.known c (by rw [h5]; simp))
          rw [e3 c x hx (by rw [h5]; simp) (by rw [h5]; simp)]; simp
        · obtain ⟨x, hx⟩ := Option.ne_none_iff_exists'.1 h5
          rw [he3 c x hx fun e => hs'g (by
            have : c = g := by rw [hgb] at e; exact (Option.some.inj e).symm
            rw [h2, this])]
          simp
      · by_cases e2 : T.sl.blk = some c
        · exact own_known ho3 e2
        · by_cases e : c = T.m
          · obtain ⟨es, cl, hx, _⟩ := hm3
            rw [e, hx]; simp
          · obtain ⟨x, hx⟩ := Option.ne_none_iff_exists'.1 (h1.known c h3)
            have : v c = some x := by rw [hv, H.ins_other _ _ e]; exact hx
            rw [he3 c x (l2 _ _ this) e2]; simp
    · rcases f3 c hc with ⟨_, h1⟩ | ⟨_, _, h1⟩
      · exact h1
      · exact .inl h1
    · refine ⟨hT.dm, ⟨by simp [hT.many.1], hT.many.2⟩, hT.cvok, fun y hy r' hr' => ?_, fun y hy r' hr' => ?_, ?_, fun x j => ?_, ?_, Nat.le_trans (List.length_filter_le _ _) hT.small, fun j y hy r' hr' => ?_⟩
      · obtain ⟨z, hz, hrz⟩ := memS y hy r' hr'
        exact hT.vec z hz r' hrz
      · obtain ⟨z, hz, hrz⟩ := memS y hy r' hr'
        exact hT.ids z hz r' hrz
      · show ((List.flatMap (·.2) (T.ls.set k _)).map _).Nodup
        rw [hrows]
        exact hT.nodup.sublist (List.filter_sublist.map _)
      · simp only [List.mem_filter, bne_iff_ne, ne_eq]
        constructor
        · rintro ⟨h2, h3⟩
          obtain ⟨y, hy, hmy⟩ := (hT.wh x j).1 h2
          by_cases e : j = k
          · subst e
            rw [hl] at hy; cases hy
            refine ⟨_, List.getElem?_set_self (by omega), ?_⟩
            rw [show ((s', l.2.take i ++ l.2.drop (i + 1)) : Sl × List Rw).2 = l.2.take i ++ l.2.drop (i + 1) from rfl, cut_filter hlnd hr hrid]
            obtain ⟨z, hz, rfl⟩ := List.mem_map.1 hmy
            exact List.mem_map.2 ⟨z, List.mem_filter.2 ⟨hz, by simpa using h3⟩, rfl⟩
          · exact ⟨y, by rw [List.getElem?_set_ne (Ne.symm e)]; exact hy, hmy⟩
        · rintro ⟨y, hy, hmy⟩
          rcases each hy with ⟨rfl, rfl⟩ | ⟨hne, hy⟩
          · rw [show ((s', l.2.take i ++ l.2.drop (i + 1)) : Sl × List Rw).2 = l.2.take i ++ l.2.drop (i + 1) from rfl, cut_filter hlnd hr hrid] at hmy
            obtain ⟨z, hz, rfl⟩ := List.mem_map.1 hmy
            obtain ⟨hz1, hz2⟩ := List.mem_filter.1 hz
            exact ⟨(hT.wh z.id j).2 ⟨l, hl, List.mem_map.2 ⟨z, hz1, rfl⟩⟩, by simpa using hz2⟩
          · refine ⟨(hT.wh x j).2 ⟨y, hy, hmy⟩, fun e => hne ?_⟩
            -- an id stands in one list only
            have w1 := (hT.wh x j).2 ⟨y, hy, hmy⟩
            have w2 := getW_mem hk
            rw [e] at w1
            have := h.tr.wnodup
            exact (Prod.mk.inj (key_one this w1 w2)).2
      · have hp0 : (T.w.map (·.1)).Perm ((T.ls.flatMap (·.2)).map (·.id)) := (List.perm_ext_iff_of_nodup h.tr.wnodup hT.nodup).2 fun x => hT.wids
        have hp1 := (hp0.filter fun x => x != id).length_eq
        rw [List.filter_map, List.filter_map, List.length_map, List.length_map] at hp1
        show (T.w.filter fun p => p.1 != id).length = (List.flatMap (·.2) (T.ls.set k _)).length
        rw [hrows]
        exact hp1
      · rcases each hy with ⟨rfl, rfl⟩ | ⟨hne, hy⟩
        · exact hT.near j l hl r' (hsub r' hr')
        · exact hT.near j y hy r' hr'
    · show (List.flatMap (·.2) (T.ls.set k _)).map Rw.pr = _
      rw [hrows]
      unfold ixRows
      rw [List.filter_map]
      rfl
  have hcap := hsegv.cap
  have sl1 : ∀ {w : H} {F : Sl → H → Prop}, F (l.1.part 0 i i 2) w → SemT Tryz.prog (Instr.sliceAt 22 (.slice l.1.a l.1.n l.1.c) none (some (.int .i64 (i : Int))) (some (.int .i64 (i : Int)))) [.one .slice] w F := fun hF =>
    sem_slice tRows (l := 0) (h := i) (m := i) (.inl ⟨rfl, rfl⟩) (.inr rfl) (.inr ⟨rfl, by simp⟩) (by omega) (Nat.le_refl _) (by omega) hcap hF
  have sl2 : ∀ {w : H} {F : Sl → H → Prop}, F (l.1.part (i + 1) l.1.n l.1.c 2) w → SemT Tryz.prog (Instr.sliceAt 22 (.slice l.1.a l.1.n l.1.c) (some (.int .i64 ((i : Int) + 1))) none none) [.one .slice] w F := fun hF =>
    sem_slice tRows (l := i + 1) (h := l.1.n) (m := l.1.c) (.inr rfl) (.inl ⟨rfl, rfl⟩) (.inl ⟨rfl, rfl⟩) (by omega) hcap (Nat.le_refl _) hcap hF
  exact ⟨_, rfl, ⟨by omega, by omega⟩, T.sl, H.cell?_of cb 2, sl1 ⟨H.le.refl _, sl2 ⟨H.le.refl _, fin⟩⟩, sl2 ⟨H.le.refl _, sl1 ⟨H.le.refl _, fin⟩⟩⟩

end Go.Proofs.YtljbcihbgeiacaaGreat.Iv

/- VcConc -/
namespace Go.Proofs.YtljbcihbgeiacaaGreat

end Go.Proofs.YtljbcihbgeiacaaGreat

/- VcIv6 -/
namespace Go.Proofs.YtljbcihbgeiacaaGreat.Iv

theorem wh_len (T : Tr) : (whereL T.w).length = T.w.length := by simp [whereL]
theorem TOk.rlen {T : Tr} (h : TOk T) : (ixRows T).length = T.w.length := by rw [h.wlen]; simp [ixRows]

theorem spec.Len {u0 u : H} {fp : Nat → Option Tg} {b : Nat} {T : Tr} {K : Int → H → Prop} (h : In u0 u fp b T) (hT : TOk T) (hK : K (ixRows T).length u) : C.ivf_Tree__Len (some ⟨b, 0, none⟩) u K := by
  obtain ⟨_, _, _, c3⟩ := tree_cells h.tr
  apply vc.ivf_Tree__Len
  refine ⟨fun e => (by cases e), fun _ => ⟨_, rfl, _, c3, sem_maplen whTy h.tr.map ?_⟩⟩
  rw [wh_len, ← hT.rlen]
  exact hK

/-- What a put leaves. -/
structure PutRes (u0 u : H) (fp : Nat → Option Tg) (b : Nat) (T : Tr) (id : Int) (v : List Int) (u' : H) (fp' : Nat → Option Tg) (T' : Tr) : Prop where
  is : In u0 u' fp' b T'
  turn : TurnG u fp u' fp'
  ok : TOk T'
  rows : (ixRows T').Perm ((id, v) :: (ixRows T).filter fun x => x.1 != id)
  dim : T'.dim = T.dim
  cs : T'.cs = T.cs

theorem spec.Put {u0 u : H} {fp : Nat → Option Tg} {b : Nat} {T : Tr} {id : Int} {t : Sl} {q : List Int} {K : Bool → Int → H → Prop} (h : In u0 u fp b T) (hT : TOk T) (ht : Ints u t q) (hkeep : ∀ u1 fp1, u0.le u1 → TurnG u fp u1 fp1 → Ints u1 t q)
    (hbad : mayErr id q T.dim (decide (id ∈ (ixRows T).map (·.1))) (ixRows T).length ≠ 0 → K false (mayErr id q T.dim (decide (id ∈ (ixRows T).map (·.1))) (ixRows T).length) u)
    (hok : mayErr id q T.dim (decide (id ∈ (ixRows T).map (·.1))) (ixRows T).length = 0 → ∀ u' fp' T', PutRes u0 u fp b T id q u' fp' T' → K (decide (id ∉ (ixRows T).map (·.1))) 0 u') : C.ivf_Tree__Put (some ⟨b, 0, none⟩) id t u K := by
  obtain ⟨c0, _, _, c3⟩ := tree_cells h.tr
  have hmem : (id ∈ T.w.map (·.1)) ↔ id ∈ (ixRows T).map (·.1) := by rw [ixRows_ids]; exact hT.wids
  have ed : decide (id ∈ T.w.map (·.1)) = decide (id ∈ (ixRows T).map (·.1)) := decide_eq_decide.2 hmem
  have hlen := hT.rlen
  apply vc.ivf_Tree__Put
  refine ⟨fun e => (by cases e), fun _ => ⟨_, rfl, _, c3, ?_⟩⟩
  refine sem_get2 whTy h.tr.map (ct := .int .i64) (((getW T.w id).getD 0 : Nat) : Int) (by rw [getL_where]; cases getW T.w id <;> rfl) ?_
  have hsome : (getL (whereL T.w) id).isSome = decide (id ∈ (ixRows T).map (·.1)) := by
    rw [← ed, getL_where, Option.isSome_map]
    cases e : getW T.w id with
    | none => rw [decide_eq_false (getW_none.1 e)]; rfl
    | some k => rw [decide_eq_true (List.mem_map.2 ⟨_, getW_mem e, rfl⟩)]; rfl
  rw [hsome]
  refine ⟨_, rfl, _, rfl, _, c0, _, c3, sem_maplen whTy h.tr.map ⟨H.le.refl u, spec.flat_May ht ?_⟩⟩
  rw [wh_len, ← hlen]
  refine ⟨fun hne => hbad hne, fun he => ?_⟩
  have hok := hok he
  obtain ⟨d1, d2, hvc, d4⟩ : 1 ≤ id ∧ id ≤ 1000000000 ∧ vcheck q T.dim = 0 ∧ (decide (id ∈ (ixRows T).map (·.1)) = false → ((ixRows T).length : Int) < 512) := by
    unfold mayErr at he
    split at he
    · cases he
    · rename_i h1
      split at he
      · rename_i h2; exact absurd he h2
      · rename_i h2
        split at he
        · cases he
        · rename_i h3
          refine ⟨by omega, by omega, by simpa using h2, fun e => ?_⟩
          by_cases h4 : ((ixRows T).length : Int) < 512
          · exact h4
          · exact absurd ⟨e, by omega⟩ h3
  obtain ⟨e1, e2, e3, e4⟩ := vcheck_ok hvc
  -- behind the deletion
  have lay : ∀ (u1 : H) (fp1 : Nat → Option Tg) (T1 : Tr), In u0 u1 fp1 b T1 → TurnG u fp u1 fp1 → TOk T1 → id ∉ T1.w.map (·.1) → T1.w.length < 512 → ixRows T1 = (ixRows T).filter (fun x => x.1 != id) → T1.dim = T.dim → T1.cs = T.cs →
      C.slices_Clone___int_int_ t u1 fun s16 u17 => H.le u1 u17 ∧ C.ivf_Tree__lay (some ⟨b, 0, none⟩) id s16 u17 fun u18 => K (!decide (decide (id ∈ (ixRows T).map (·.1)) = true)) 0 u18 := by
    intro u1 fp1 T1 h1 ht1 hT1 hn1 hl1 hr1 hd1 hc1
    have hi1 := hkeep u1 fp1 h1.le ht1
    refine spec.slices_Clone___int_int_ hi1 (by have := hi1.len; omega) fun s16 u17 ho16 _ => ⟨ho16.le, ?_⟩
    have h17 := h1.mono keep ho16.le
    obtain ⟨fp2, h2, hv2, hk2⟩ := h17.tag keep (s16.tags .vec) fun c hc => by
      have hc' := Sl.tags_ne hc
      have hf := ho16.fresh c hc'
      exact ⟨h1.fresh hf, h1.le.none hf, own_known ho16 hc'⟩
    have t2 : TurnG u fp u17 fp2 := by
      refine (ht1.trans (TurnG.mono ho16.le)).tag fun c => ?_
      by_cases e : s16.blk = some c
      · right
        have hf := ho16.fresh c e
        cases e5 : u c with
        | none => exact .inr rfl
        | some o =>
          refine .inl fun e6 => ?_
          rw [ht1.keep c o e5 e6] at hf; cases hf
      · exact .inl (hk2 c (Sl.tags_not e))
    refine spec.lay h2 hT1 hn1 ⟨d1, d2⟩ ho16.ints (fun g hg => hv2 g _ (Sl.tags_at hg)) ⟨by rw [hd1]; exact e3, e4⟩ hl1 fun u18 fp3 T3 hr => ?_
    have hb : (!decide (decide (id ∈ (ixRows T).map (·.1)) = true)) = decide (id ∉ (ixRows T).map (·.1)) := by
      by_cases hin : id ∈ (ixRows T).map (·.1) <;> simp [hin]
    rw [hb]
    exact hok u18 fp3 T3 ⟨hr.is, t2.trans hr.turn, hr.ok, by rw [← hr1]; exact hr.rows, hr.dim.trans hd1, hr.cs.trans hc1⟩
  refine spec.Delete h hT (fun hno u1 hu1 => ?_) fun hin u1 fp1 T1 hr => ?_
  · refine lay u1 fp T (h.mono keep hu1) (TurnG.mono hu1) hT hno ?_ ?_ rfl rfl
    · have := d4 (decide_eq_false fun hm => hno (hmem.2 hm))
      omega
    · refine (List.filter_eq_self.2 fun x hx => ?_).symm
      have : x.1 ≠ id := fun e => hno (hmem.2 (List.mem_map.2 ⟨x, hx, e⟩))
      simpa using this
  · refine lay u1 fp1 T1 hr.is hr.turn hr.ok ?_ ?_ hr.rows hr.dim hr.cs
    · rw [hr.w]
      intro hm
      obtain ⟨p, hp, e⟩ := List.mem_map.1 hm
      have := (List.mem_filter.1 hp).2
      simp [e] at this
    · rw [hr.w]
      have hs := hT.small
      obtain ⟨p, hp, e⟩ := List.mem_map.1 hin
      have : (T.w.filter fun p => p.1 != id).length < T.w.length := List.length_filter_lt_length_iff_exists.2 ⟨p, hp, by simp [e]⟩
      omega

end Go.Proofs.YtljbcihbgeiacaaGreat.Iv

/- VcPop -/
namespace Go.Proofs.YtljbcihbgeiacaaGreat

theorem spec.pop_part {v u : H} {n : Nat} {l : List Op1} {K : Value → H → Prop} (h : PQ v u n l) (hh : Hp blt l.length l) (hne : 0 < l.length)
    (hK : ∀ u' m, PQ v u' n (popF blt l) → PartAt v m (l.getD 0 default).2 → K (queI ((⟨m, 0, none⟩ : Addr), l.getD 0 default)) u') : C.heap_Pop (queV n) u K := by
  obtain ⟨L, hQ, hL, hall⟩ := h.ex
  have hlen : L.length = l.length := by rw [← hL, List.length_map]
  have hget : ∀ i, l.getD i default = (L.getD i default).2 := fun i => by
    rw [← hL]
    exact getD_map' (f := fun e : QE => e.2) rfl L i
  have hhL : Hp qlt L.length L := fun i i0 i1 => by
    have := hh i i0 (by omega)
    rw [hget, hget] at this
    exact this
  obtain ⟨p1, _, _, _⟩ := popF_ok queLt hhL (by omega)
  refine spec.heap_PopF (queHeap v n) queLt (V := queI) hQ hhL (by omega) (fun {u' l' x K'} hs hk => ?_) fun u' hs => ?_
  · refine que_pop hs (by simp) fun u'' hs'' => ?_
    rw [List.dropLast_concat] at hs''
    have e : (l' ++ [x]).getD ((l' ++ [x]).length - 1) default = x := by
      rw [List.getD_eq_getElem?_getD]
      simp
    rw [e]
    exact hk u'' hs''
  · have h0 : L.getD 0 default ∈ L := by
      rw [List.getD_eq_getElem?_getD, List.getElem?_eq_getElem (by omega)]
      exact List.getElem_mem (by omega)
    obtain ⟨m, hm, hp⟩ := hall _ h0
    have e : L.getD 0 default = ((⟨m, 0, none⟩ : Addr), l.getD 0 default) := by rw [hget, ← hm]
    rw [e]
    refine hK u' m ⟨popF qlt L, hs, ?_, fun y hy => hall y (p1.mem_iff.1 (List.mem_cons_of_mem _ hy))⟩ (by rw [hget]; exact hp)
    have e2 := popF_map (α := QE) (β := Op1) (lt := qlt) (lt' := blt) (f := fun e : QE => e.2) rfl (fun _ _ => rfl) L
    rw [hL] at e2
    exact e2

end Go.Proofs.YtljbcihbgeiacaaGreat

/- VcRest -/
namespace Go.Proofs.YtljbcihbgeiacaaGreat

theorem tRegs' : elemT Tryz.prog 51 = some (105, 6, 96, [.int .i64 0, .slice none 0 0, .slice none 0 0, .int .u64 0, .int .u64 0, .slice none 0 0]) := by kernel_rfl

structure RestAt (u0 u : H) (sr : Sl) (rest : List Rgn) : Prop where
  own : OwnF u0 u 105 6 sr (rest.flatMap encG)
  each : ∀ r ∈ rest, Own3 u0 u r
  far : (sr :: rest.flatMap Rgn.sls).Pairwise Far

theorem RestAt.mono {u0 u u' : H} {sr : Sl} {rest : List Rgn} (h : RestAt u0 u sr rest) (k : u.le u') : RestAt u0 u' sr rest :=
  ⟨h.own.mono k, fun r hr => ⟨(h.each r hr).l.mono k, (h.each r hr).h.mono k, (h.each r hr).i.mono k⟩, h.far⟩

theorem RestAt.nil {u0 u : H} (h : u0.le u) : RestAt u0 u ⟨none, 0, 0⟩ [] := ⟨OwnF.nil h _ _, fun r hr => (by cases hr), by rw [List.flatMap_nil]; exact List.pairwise_singleton _ _⟩

/-- Every slice of regions of one's own is known. -/
theorem own3_sls {u0 u : H} {r : Rgn} (h : Own3 u0 u r) : ∀ s ∈ r.sls, ∃ xs, OwnF u0 u 3 1 s xs := by
  intro s hs
  simp only [Rgn.sls, List.mem_cons, List.not_mem_nil, or_false] at hs
  rcases hs with rfl | rfl | rfl
  · exact ⟨_, h.l⟩
  · exact ⟨_, h.h⟩
  · exact ⟨_, h.i⟩

theorem rest_push {u0 u1 u : H} {sr : Sl} {rest : List Rgn} {r : Rgn} {K : Sl → H → Prop} (h : RestAt u0 u1 sr rest) (hu : u1.le u) (hr : Own3 u1 u r) (f1 : Far r.ls r.hs) (f2 : Far r.ls r.is) (f3 : Far r.hs r.is) (hl : rest.length ≤ 10000000)
    (hK : ∀ s' u', RestAt u0 u' s' (rest ++ [r]) → Else u u' sr → (∀ g, s'.blk = some g → sr.blk = some g ∨ u g = none) → K s' u') :
    SemT Tryz.prog (Instr.buildSlice 51 1 #[(0, .agg #[.int .i64 r.sh, .slice r.ls.a r.ls.n r.ls.c, .slice r.hs.a r.hs.n r.hs.c, .int .u64 (hiW r.rad), .int .u64 (loW r.rad), .slice r.is.a r.is.n r.is.c])]) [.one .slice] u fun s1 v1 => u.le v1 ∧ SemT Tryz.prog (Builtin.append_ #[51, 51] 51 #[.slice sr.a sr.n sr.c, .slice s1.a s1.n s1.c]) [.one .slice] v1 K := by
  have hm := h.mono hu
  have hn : sr.n = rest.length := flat_n encG_len (by decide) hm.own.own.seg
  have u01 : u0.le u1 := h.own.le
  have hr0 : Own3 u0 u r := ⟨hr.l.weaken u01, hr.h.weaken u01, hr.i.weaken u01⟩
  have hall : ∀ x ∈ rest ++ [r], Own3 u0 u x := fun x hx => by
    rcases List.mem_append.1 hx with hx | hx
    · exact hm.each x hx
    · rw [List.mem_singleton.1 hx]; exact hr0
  have farNew : ∀ s ∈ r.sls, Far sr s ∧ ∀ t ∈ rest.flatMap Rgn.sls, Far t s := fun s hs => by
    obtain ⟨xs, hx⟩ := own3_sls hr s hs
    refine ⟨OwnF.far h.own (H.le.refl u1) hx, fun t ht => ?_⟩
    obtain ⟨y, hy, hty⟩ := List.mem_flatMap.1 ht
    obtain ⟨ys, hy2⟩ := own3_sls (h.each y hy) t hty
    exact OwnF.far hy2 (H.le.refl u1) hx
  have hf := h.far
  rw [List.pairwise_cons] at hf
  refine sem_push tRegs' (build_region r.ls r.hs r.is r.sh (hiW r.rad) (loW r.rad)) (by decide) rfl (by simp [Value.oneCell']) hm.own (by omega) (by omega) fun s' u' ho hn' hel hbl _ => hK s' u' ⟨?_, fun x hx => ?_, ?_⟩ hel hbl
  · rw [List.flatMap_append]
    exact ho
  · have hk : Keep [sr] u u' := fun b o hb hd => hel b o hb (hd sr (List.mem_cons_self ..))
    refine hk.own3 (hall x hx) (fun s hs g hg => by rw [List.mem_singleton.1 hs] at hg; exact hm.own.fresh g hg) fun s hs t ht => ?_
    rw [List.mem_singleton.1 hs]
    rcases List.mem_append.1 hx with hx | hx
    · exact hf.1 t (List.mem_flatMap.2 ⟨x, hx, ht⟩)
    · rw [List.mem_singleton.1 hx] at ht; exact (farNew t ht).1
  · rw [List.flatMap_append, List.pairwise_cons]
    have hsing : [r].flatMap Rgn.sls = r.sls := by simp
    rw [hsing]
    refine ⟨fun t ht => ?_, List.pairwise_append.2 ⟨hf.2, ?_, fun t ht s hs => (farNew s hs).2 t ht⟩⟩
    · intro g hg hg2
      have hfar : Far sr t := by
        rcases List.mem_append.1 ht with h1 | h1
        · exact hf.1 t h1
        · exact (farNew t h1).1
      have hown : ∃ xs, OwnF u0 u 3 1 t xs := by
        rcases List.mem_append.1 ht with h1 | h1
        · obtain ⟨y, hy, hty⟩ := List.mem_flatMap.1 h1
          exact own3_sls (hm.each y hy) t hty
        · exact own3_sls hr0 t h1
      obtain ⟨xs, hx⟩ := hown
      rcases hbl g hg with h1 | h1
      · exact hfar g h1 hg2
      · exact own_known hx hg2 h1
    · simp only [Rgn.sls, List.pairwise_cons, List.mem_cons, List.not_mem_nil, or_false, forall_eq_or_imp, forall_eq, List.Pairwise.nil, and_true]
      exact ⟨⟨f1, f2⟩, f3, fun _ h => h.elim⟩

end Go.Proofs.YtljbcihbgeiacaaGreat

/- VcWlk0 -/
namespace Go.Proofs.YtljbcihbgeiacaaGreat

/-- What lies beside a part of memory that turns. -/
theorem Framed.beside {v a u a' u' b : H} (hf : Framed a u a' u') (hva' : v.le a') (hb : b.le u) (hvb : v.le b) (hap : ∀ c, a c ≠ none → b c ≠ none → v c ≠ none) : b.le u' ∧ ∀ c, a' c ≠ none → b c ≠ none → v c ≠ none := by
  refine ⟨fun c o hc => ?_, fun c h1 h2 => ?_⟩
  · cases e : a c with
    | none => exact (hf.out c o e (hb c o hc)).2
    | some o' =>
      obtain ⟨o2, h2⟩ := Option.ne_none_iff_exists'.1 (hap c (by rw [e]; simp) (by rw [hc]; simp))
      have h3 := hvb c o2 h2
      rw [hc] at h3
      cases h3
      exact hf.le c o (hva' c o h2)
  · cases e : a c with
    | none =>
      obtain ⟨o, ho⟩ := Option.ne_none_iff_exists'.1 h2
      exact absurd (hf.out c o e (hb c o ho)).1 h1
    | some o' => exact hap c (by rw [e]; simp) h2

structure WI (v u : H) (N n6 : Nat) (k : Int) (S : List Hit) (l : List Op1) (ids : List Int) (ss sr : Sl) (R : List Rgn) : Prop where
  ex : ∃ uT uQ, uT.le u ∧ uQ.le u ∧ v.le uT ∧ v.le uQ ∧ (∀ c, uT c ≠ none → uQ c ≠ none → v c ≠ none) ∧ TopAt v N k uT S ∧ PQ v uQ n6 l ∧ (∀ s ∈ ss :: sr :: R.flatMap Rgn.sls, ∀ g, s.blk = some g → uT g = none ∧ uQ g = none)
  seen : OwnF v u 3 1 ss (ids.flatMap encI)
  rest : RestAt v u sr R
  far : ∀ s ∈ sr :: R.flatMap Rgn.sls, Far ss s

theorem WI.le {v u : H} {N n6 : Nat} {k : Int} {S : List Hit} {l : List Op1} {ids : List Int} {ss sr : Sl} {R : List Rgn} (h : WI v u N n6 k S l ids ss sr R) : v.le u := h.seen.le

/-- All slices of one's own are known. -/
theorem WI.known {v u : H} {N n6 : Nat} {k : Int} {S : List Hit} {l : List Op1} {ids : List Int} {ss sr : Sl} {R : List Rgn} (h : WI v u N n6 k S l ids ss sr R) : ∀ s ∈ ss :: sr :: R.flatMap Rgn.sls, ∀ g, s.blk = some g → u g ≠ none := by
  intro s hs g hg
  rcases List.mem_cons.1 hs with rfl | hs
  · exact own_known h.seen hg
  · rcases List.mem_cons.1 hs with rfl | hs
    · exact own_known h.rest.own hg
    · obtain ⟨y, hy, hty⟩ := List.mem_flatMap.1 hs
      obtain ⟨xs, hx⟩ := own3_sls (h.rest.each y hy) s hty
      exact own_known hx hg

/-- Slices of one's own stay where their blocks do. -/
theorem RestAt.stay {v u u' : H} {sr : Sl} {R : List Rgn} (h : RestAt v u sr R) (hv : v.le u') (hs : ∀ s ∈ sr :: R.flatMap Rgn.sls, ∀ g o, s.blk = some g → u g = some o → u' g = some o) : RestAt v u' sr R := by
  have one : ∀ {e k : Nat} {s : Sl} {xs : List Value}, OwnF v u e k s xs → s ∈ sr :: R.flatMap Rgn.sls → OwnF v u' e k s xs := fun ho hm => ⟨ho.own.le fun b o hb hu => hs _ hm b o hb hu, hv, ho.fresh⟩
  refine ⟨one h.own (List.mem_cons_self ..), fun r hr => ?_, h.far⟩
  have hm : ∀ s ∈ r.sls, s ∈ sr :: R.flatMap Rgn.sls := fun s hs => List.mem_cons_of_mem _ (List.mem_flatMap.2 ⟨r, hr, hs⟩)
  exact ⟨one (h.each r hr).l (hm _ (by simp [Rgn.sls])), one (h.each r hr).h (hm _ (by simp [Rgn.sls])), one (h.each r hr).i (hm _ (by simp [Rgn.sls]))⟩

theorem spec.wi_Offer {v u : H} {N n6 : Nat} {k : Int} {S : List Hit} {l : List Op1} {ids : List Int} {ss sr : Sl} {R : List Rgn} {x : Hit} {K : Bool → H → Prop} (h : WI v u N n6 k S l ids ss sr R) (k1 : 1 ≤ k) (k2 : k ≤ 64)
    (hK : ∀ b u', WI v u' N n6 k (x :: S) l ids ss sr R → K b u') : C.topk_Heap__Offer (some ⟨N, 0, none⟩) x.1 (hiW x.2) (loW x.2) u K := by
  obtain ⟨uT, uQ, t1, q1, t2, q2, hap, hT, hQ, hfr⟩ := h.ex
  have hc := spec.topk_Heap__Offer (K := fun _ u' => TopAt v N k u' (x :: S)) hT k1 k2 fun b u' h' => h'
  refine hc.frame t1 ?_
  intro b uT' u' hf hT'
  have hv' := hT'.le
  obtain ⟨b1, b2⟩ := hf.beside hv' q1 q2 hap
  have stay : ∀ s ∈ ss :: sr :: R.flatMap Rgn.sls, ∀ g o, s.blk = some g → u g = some o → uT' g = none ∧ u' g = some o := fun s hs g o hg ho => hf.out g o (hfr s hs g hg).1 ho
  refine hK b u' ⟨⟨uT', uQ, hf.le, b1, hv', q2, b2, hT', hQ, fun s hs g hg => ?_⟩, ⟨h.seen.own.le fun g o hg ho => (stay _ (List.mem_cons_self ..) g o hg ho).2, hv'.trans hf.le, h.seen.fresh⟩, h.rest.stay (hv'.trans hf.le) fun s hs g o hg ho => (stay s (List.mem_cons_of_mem _ hs) g o hg ho).2, h.far⟩
  obtain ⟨o, ho⟩ := Option.ne_none_iff_exists'.1 (h.known s hs g hg)
  exact ⟨(stay s hs g o hg ho).1, (hfr s hs g hg).2⟩

/-- A step of the queue. -/
theorem WI.queue {v u uT uQ uQ' u' : H} {N n6 : Nat} {k : Int} {S : List Hit} {l l' : List Op1} {ids : List Int} {ss sr : Sl} {R : List Rgn} (h : WI v u N n6 k S l ids ss sr R) (t1 : uT.le u) (t2 : v.le uT) (hap : ∀ c, uT c ≠ none → uQ c ≠ none → v c ≠ none)
    (hT : TopAt v N k uT S) (hfr : ∀ s ∈ ss :: sr :: R.flatMap Rgn.sls, ∀ g, s.blk = some g → uT g = none ∧ uQ g = none) (hf : Framed uQ u uQ' u') (hv' : v.le uQ') (hQ' : PQ v uQ' n6 l') : WI v u' N n6 k S l' ids ss sr R := by
  obtain ⟨b1, b2⟩ := hf.beside hv' t1 t2 fun c h1 h2 => hap c h2 h1
  have stay : ∀ s ∈ ss :: sr :: R.flatMap Rgn.sls, ∀ g o, s.blk = some g → u g = some o → uQ' g = none ∧ u' g = some o := fun s hs g o hg ho => hf.out g o (hfr s hs g hg).2 ho
  refine ⟨⟨uT, uQ', b1, hf.le, t2, hv', fun c h1 h2 => b2 c h2 h1, hT, hQ', fun s hs g hg => ?_⟩, ⟨h.seen.own.le fun g o hg ho => (stay _ (List.mem_cons_self ..) g o hg ho).2, hv'.trans hf.le, h.seen.fresh⟩, h.rest.stay (hv'.trans hf.le) fun s hs g o hg ho => (stay s (List.mem_cons_of_mem _ hs) g o hg ho).2, h.far⟩
  obtain ⟨o, ho⟩ := Option.ne_none_iff_exists'.1 (h.known s hs g hg)
  exact ⟨(hfr s hs g hg).1, (stay s hs g o hg ho).1⟩

end Go.Proofs.YtljbcihbgeiacaaGreat

/- VcWlk1 -/
namespace Go.Proofs.YtljbcihbgeiacaaGreat

theorem PQ.le {v u : H} {n : Nat} {l : List Op1} (h : PQ v u n l) : v.le u := by
  obtain ⟨L, hQ, _, _⟩ := h.ex
  obtain ⟨s, _, ho, _⟩ := hQ.ex
  exact ho.le

theorem spec.wi_add {v u : H} {N n6 n0 m : Nat} {k : Int} {S : List Hit} {l : List Op1} {ids : List Int} {ss sr : Sl} {R : List Rgn} {s : Sl} {q : List Int} {p : Pt} {K : H → Prop} (h : WI v u N n6 k S l ids ss sr R) (hl : l.length < 10000000) (hp : PartAt v m p)
    (hok : RegOk (p.rgn []) q.length) (hq : vok q) (hn0 : v.cell? ⟨n0, 0, none⟩ = some (.slice s.a s.n s.c)) (hs : Ints v s q) (hK : ∀ u', WI v u' N n6 k S (addW q l p) ids ss sr R → K u') : C.flat_Walk_1 (some ⟨m, 0, none⟩) ⟨n0, 0, none⟩ ⟨n6, 0, none⟩ u K := by
  obtain ⟨uT, uQ, t1, q1, t2, q2, hap, hT, hQ, hfr⟩ := h.ex
  have hc := spec.flat_Walk_1 (K := fun u' => PQ v u' n6 (addW q l p)) hQ q2 hl hp hok hq (q2.cell hn0) (hs.mono q2) fun u' h' => h'
  refine hc.frame q1 ?_
  intro uQ' u' hf hQ'
  exact hK u' (h.queue t1 t2 hap hT hfr hf hQ'.le hQ')

theorem spec.wi_pop {v u : H} {N n6 : Nat} {k : Int} {S : List Hit} {l : List Op1} {ids : List Int} {ss sr : Sl} {R : List Rgn} {K : Value → H → Prop} (h : WI v u N n6 k S l ids ss sr R) (hh : Hp blt l.length l) (hne : 0 < l.length)
    (hK : ∀ u' m, WI v u' N n6 k S (popF blt l) ids ss sr R → PartAt v m (l.getD 0 default).2 → K (queI ((⟨m, 0, none⟩ : Addr), l.getD 0 default)) u') : C.heap_Pop (queV n6) u K := by
  obtain ⟨uT, uQ, t1, q1, t2, q2, hap, hT, hQ, hfr⟩ := h.ex
  have hc := spec.pop_part (K := fun x u' => ∃ m, x = queI ((⟨m, 0, none⟩ : Addr), l.getD 0 default) ∧ PQ v u' n6 (popF blt l) ∧ PartAt v m (l.getD 0 default).2) hQ hh hne fun u' m h1 h2 => ⟨m, rfl, h1, h2⟩
  refine hc.frame q1 ?_
  rintro x uQ' u' hf ⟨m, rfl, hQ', hp⟩
  exact hK u' m (h.queue t1 t2 hap hT hfr hf hQ'.le hQ') hp

theorem TopAt.whole {v u uT : H} {N : Nat} {k : Int} {S : List Hit} (h : TopAt v N k uT S) (hu : uT.le u) : TopAt v N k u S := h.mono hu

theorem spec.wi_done {v u : H} {N n6 n4 : Nat} {k hi lo : Int} {S : List Hit} {l : List Op1} {ids : List Int} {ss sr : Sl} {R : List Rgn} {K : Bool → H → Prop} (h : WI v u N n6 k S l ids ss sr R) (k1 : 1 ≤ k) (hd : ∀ g ∈ S, Dok g.2)
    (hn4 : v.cell? ⟨n4, 0, none⟩ = some (.pointer (some ⟨N, 0, none⟩))) (h1 : U64 hi) (h2 : U64 lo) (hK : ∀ bb : Bool, (bb = true ↔ k ≤ (S.length : Int) ∧ ((topk k.toNat S).getD (k.toNat - 1) default).2 < wv hi lo) → K bb u) : C.flat_Walk_2 hi lo ⟨n4, 0, none⟩ u K := by
  obtain ⟨uT, uQ, t1, q1, t2, q2, hap, hT, hQ, hfr⟩ := h.ex
  exact spec.flat_Walk_2 (hT.whole t1) k1 hd (h.le.cell hn4) h1 h2 hK

end Go.Proofs.YtljbcihbgeiacaaGreat

/- VcWlk2 -/
namespace Go.Proofs.YtljbcihbgeiacaaGreat

theorem le_none {a u : H} (h : a.le u) {g : Nat} (hg : u g = none) : a g = none := by
  cases e : a g with
  | none => rfl
  | some o => have := h g o e; rw [hg] at this; cases this

/-- An id more is seen. -/
theorem wi_see {v u : H} {N n6 : Nat} {k : Int} {S : List Hit} {l : List Op1} {ids : List Int} {ss sr : Sl} {R : List Rgn} {x : Int} {K : Sl → H → Prop} (h : WI v u N n6 k S l ids ss sr R) (hl : ids.length < 10000000)
    (hK : ∀ s' u', WI v u' N n6 k S l (ids ++ [x]) s' sr R → K s' u') :
    SemT Tryz.prog (Instr.buildSlice 41 1 #[(0, .int .i64 x)]) [.one .slice] u fun s1 u1 => SemT Tryz.prog (Builtin.append_ #[41, 41] 41 #[.slice ss.a ss.n ss.c, .slice s1.a s1.n s1.c]) [.one .slice] u1 K := by
  obtain ⟨uT, uQ, t1, q1, t2, q2, hap, hT, hQ, hfr⟩ := h.ex
  have hn := h.seen.ints.len
  refine sem_push' tInts (build_int _) (by decide) rfl (by simp [Value.oneCell']) h.seen (by omega) (by omega) fun s' u' ho hn' hel hbl _ => hK s' u' ?_
  have fresh : ∀ g, s'.blk = some g → uT g = none ∧ uQ g = none := fun g hg => by
    rcases hbl g hg with h1 | h1
    · exact hfr ss (List.mem_cons_self ..) g h1
    · exact ⟨le_none t1 h1, le_none q1 h1⟩
  have stayO : ∀ {w : H}, w.le u → (∀ g, ss.blk = some g → w g = none) → w.le u' := fun hw hg b o hb => hel b o (hw b o hb) fun e => by rw [hg b e] at hb; cases hb
  have far' : ∀ s ∈ sr :: R.flatMap Rgn.sls, Far s' s := fun s hs g hg hg2 => by
    rcases hbl g hg with h1 | h1
    · exact h.far s hs g h1 hg2
    · exact h.known s (List.mem_cons_of_mem _ hs) g hg2 h1
  refine ⟨⟨uT, uQ, stayO t1 fun g hg => (hfr ss (List.mem_cons_self ..) g hg).1, stayO q1 fun g hg => (hfr ss (List.mem_cons_self ..) g hg).2, t2, q2, hap, hT, hQ, fun s hs g hg => ?_⟩, ?_, h.rest.stay ho.le fun s hs g o hg ho' => hel g o ho' fun e => h.far s hs g e hg, far'⟩
  · rcases List.mem_cons.1 hs with rfl | hs
    · exact fresh g hg
    · exact hfr s (List.mem_cons_of_mem _ hs) g hg
  · rw [List.flatMap_append]
    exact ho

/-- A region more is left. -/
theorem wi_left {v u w : H} {N n6 : Nat} {k : Int} {S : List Hit} {l : List Op1} {ids : List Int} {ss sr : Sl} {R : List Rgn} {r : Rgn} {K : Sl → H → Prop} (h : WI v u N n6 k S l ids ss sr R) (hw : u.le w) (hr : Own3 u w r) (f1 : Far r.ls r.hs) (f2 : Far r.ls r.is) (f3 : Far r.hs r.is) (hl : R.length ≤ 10000000)
    (hK : ∀ s' u', WI v u' N n6 k S l ids ss s' (R ++ [r]) → Else w u' sr → (∀ g, s'.blk = some g → sr.blk = some g ∨ w g = none) → K s' u') :
    SemT Tryz.prog (Instr.buildSlice 51 1 #[(0, .agg #[.int .i64 r.sh, .slice r.ls.a r.ls.n r.ls.c, .slice r.hs.a r.hs.n r.hs.c, .int .u64 (hiW r.rad), .int .u64 (loW r.rad), .slice r.is.a r.is.n r.is.c])]) [.one .slice] w fun s1 v1 => w.le v1 ∧ SemT Tryz.prog (Builtin.append_ #[51, 51] 51 #[.slice sr.a sr.n sr.c, .slice s1.a s1.n s1.c]) [.one .slice] v1 K := by
  obtain ⟨uT, uQ, t1, q1, t2, q2, hap, hT, hQ, hfr⟩ := h.ex
  refine rest_push h.rest hw hr f1 f2 f3 hl fun s' u' hR hel hbl => hK s' u' ?_ hel hbl
  have newS : ∀ s ∈ r.sls, ∃ xs, OwnF u w 3 1 s xs := own3_sls hr
  have fresh : ∀ s ∈ ss :: s' :: (R ++ [r]).flatMap Rgn.sls, ∀ g, s.blk = some g → uT g = none ∧ uQ g = none := fun s hs g hg => by
    rcases List.mem_cons.1 hs with rfl | hs
    · exact hfr _ (List.mem_cons_self ..) g hg
    · rcases List.mem_cons.1 hs with rfl | hs
      · rcases hbl g hg with h1 | h1
        · exact hfr sr (by simp) g h1
        · exact ⟨le_none (t1.trans hw) h1, le_none (q1.trans hw) h1⟩
      · rw [List.flatMap_append] at hs
        rcases List.mem_append.1 hs with hs | hs
        · exact hfr s (by simp only [List.mem_cons]; exact .inr (.inr hs)) g hg
        · obtain ⟨xs, hx⟩ := newS s (by simpa using hs)
          exact ⟨le_none t1 (hx.fresh g hg), le_none q1 (hx.fresh g hg)⟩
  have farR : Far ss sr := h.far sr (List.mem_cons_self ..)
  have keep : ∀ {z : H}, z.le u → (∀ g, sr.blk = some g → z g = none) → z.le u' := fun hz hg b o hb => hel b o (hw b o (hz b o hb)) fun e => by rw [hg b e] at hb; cases hb
  refine ⟨⟨uT, uQ, keep t1 fun g hg => (hfr sr (by simp) g hg).1, keep q1 fun g hg => (hfr sr (by simp) g hg).2, t2, q2, hap, hT, hQ, fresh⟩, ⟨h.seen.own.le fun b o hb ho => hel b o (hw b o ho) fun e => farR b hb e, hR.own.le, h.seen.fresh⟩, hR, fun s hs => ?_⟩
  rcases List.mem_cons.1 hs with rfl | hs
  · intro g hg hg2
    rcases hbl g hg2 with h1 | h1
    · exact farR g hg h1
    · have := own_known h.seen hg
      exact this (le_none hw h1)
  · rw [List.flatMap_append] at hs
    rcases List.mem_append.1 hs with hs | hs
    · exact h.far s (List.mem_cons_of_mem _ hs)
    · obtain ⟨xs, hx⟩ := newS s (by simpa using hs)
      exact OwnF.far h.seen (H.le.refl u) hx

end Go.Proofs.YtljbcihbgeiacaaGreat

/- VcWlk3 -/
namespace Go.Proofs.YtljbcihbgeiacaaGreat

/-- The queue as it lies there. -/
theorem PQ.slice {v u : H} {n : Nat} {l : List Op1} (h : PQ v u n l) : ∃ s : Sl, u.cell? ⟨n, 0, none⟩ = some (.slice s.a s.n s.c) ∧ s.n = l.length ∧ ∀ x : Int, 0 ≤ x → x < (s.n : Int) → ∃ p m e, s.a = some p ∧ l[x.toNat]? = some e ∧ PartAt v m e.2 ∧
    u.cell? (p.add (x.toNat * 3)) = some (.pointer (some ⟨m, 0, none⟩)) ∧ u.cell? ((p.add (x.toNat * 3)).add 1) = some (.int .u64 (hiW e.1)) ∧ u.cell? ((p.add (x.toNat * 3)).add 2) = some (.int .u64 (loW e.1)) := by
  obtain ⟨L, hQ, hL, hall⟩ := h.ex
  obtain ⟨s, hn, ho, _⟩ := hQ.ex
  refine ⟨s, H.cell?_of hn 0, by rw [ho.qs.len, ← hL, List.length_map], fun x x0 x1 => ?_⟩
  obtain ⟨p, hp, y, hy, c0, c1, c2⟩ := ho.qs.at x0 x1
  obtain ⟨m, hm, hpart⟩ := hall y (List.mem_of_getElem? hy)
  refine ⟨p, m, y.2, hp, by rw [← hL, List.getElem?_map, hy]; rfl, hpart, ?_, c1, c2⟩
  rw [hm] at c0
  exact c0

theorem WI.slice {v u : H} {N n6 : Nat} {k : Int} {S : List Hit} {l : List Op1} {ids : List Int} {ss sr : Sl} {R : List Rgn} (h : WI v u N n6 k S l ids ss sr R) : ∃ s : Sl, u.cell? ⟨n6, 0, none⟩ = some (.slice s.a s.n s.c) ∧ s.n = l.length ∧ ∀ x : Int, 0 ≤ x → x < (s.n : Int) → ∃ p m e, s.a = some p ∧ l[x.toNat]? = some e ∧ PartAt v m e.2 ∧
    u.cell? (p.add (x.toNat * 3)) = some (.pointer (some ⟨m, 0, none⟩)) ∧ u.cell? ((p.add (x.toNat * 3)).add 1) = some (.int .u64 (hiW e.1)) ∧ u.cell? ((p.add (x.toNat * 3)).add 2) = some (.int .u64 (loW e.1)) := by
  obtain ⟨uT, uQ, t1, q1, t2, q2, hap, hT, hQ, hfr⟩ := h.ex
  obtain ⟨s, h1, h2, h3⟩ := hQ.slice
  refine ⟨s, q1.cell h1, h2, fun x x0 x1 => ?_⟩
  obtain ⟨p, m, e, g1, g2, g3, g4, g5, g6⟩ := h3 x x0 x1
  exact ⟨p, m, e, g1, g2, g3, q1.cell g4, q1.cell g5, q1.cell g6⟩

theorem WI.mono {v u u' : H} {N n6 : Nat} {k : Int} {S : List Hit} {l : List Op1} {ids : List Int} {ss sr : Sl} {R : List Rgn} (h : WI v u N n6 k S l ids ss sr R) (hu : u.le u') : WI v u' N n6 k S l ids ss sr R := by
  obtain ⟨uT, uQ, t1, q1, t2, q2, hap, hT, hQ, hfr⟩ := h.ex
  exact ⟨⟨uT, uQ, t1.trans hu, q1.trans hu, t2, q2, hap, hT, hQ, hfr⟩, h.seen.mono hu, h.rest.mono hu, h.far⟩

end Go.Proofs.YtljbcihbgeiacaaGreat

/- VcWlk4 -/
namespace Go.Proofs.YtljbcihbgeiacaaGreat

theorem bWalk1 : hasBody Tryz.prog 95 = true := by kernel_rfl
theorem bWalk2 : hasBody Tryz.prog 98 = true := by kernel_rfl

theorem len_size (P : List Pt) : P.length ≤ Pt.sizeL P := by
  induction P with
  | nil => exact Nat.le_refl _
  | cons p P ih => simp only [Pt.sizeL, List.length_cons]; have := Pt.size_eq p; omega

theorem ptr_at {u : H} {s : Sl} {ps : List Nat} (h : Seg u s 1 (ps.map fun n => .pointer (some ⟨n, 0, none⟩))) {i : Nat} (hi : i < ps.length) : ∃ a, s.a = some a ∧ u.cell? (a.add (i * 1)) = some (.pointer (some ⟨ps[i], 0, none⟩)) := by
  obtain ⟨a, ha, hc⟩ := Seg.elem (enc := fun n : Nat => [Value.pointer (some ⟨n, 0, none⟩)]) (k := 1) (fun _ => rfl) (by decide) (xs := ps) (by
    have e : ps.flatMap (fun n : Nat => [Value.pointer (some ⟨n, 0, none⟩)]) = ps.map fun n => Value.pointer (some ⟨n, 0, none⟩) := by
      generalize ps = z
      induction z with
      | nil => rfl
      | cons y z ih => rw [List.flatMap_cons, List.map_cons, ih]; rfl
    rw [e]
    exact h) (List.getElem?_eq_getElem hi)
  exact ⟨a, ha, hc 0 _ rfl⟩

theorem start_size (q : List Int) (P : List Pt) : Pt.sizeL ((startW q P).heap.map (·.2)) ≤ Pt.sizeL P := by
  have h0 : Hp blt ([] : List Op1).length [] := fun i _ hi => by simp at hi
  obtain ⟨h1, h2⟩ := foldl_add (q := q) P [] h0
  rw [List.nil_append] at h2
  show Pt.sizeL ((P.foldl (addW q) []).map (·.2)) ≤ _
  rw [sizeL_perm (h2.map _), List.map_map]
  exact Nat.le_of_eq (congrArg _ (List.map_id' _))

theorem loopW_stop {q : List Int} {k b : Int} {s : WS} (h : ¬ goW q k b s) : ∀ f, loopW q k b f s = s := by
  intro f
  cases f with
  | zero => rfl
  | succ f => unfold loopW; rw [if_neg h]

theorem loopW_go {q : List Int} {k b : Int} {s : WS} (h : goW q k b s) (f : Nat) : loopW q k b (f + 1) s = loopW q k b f (stepW q b s) := by
  conv => lhs; unfold loopW
  rw [if_pos h]

/-- Where the walk is: st, with f steps to go at most. -/
structure At (v w : H) (N n6 : Nat) (k b : Int) (q : List Int) (P : List Pt) (f : Nat) (sh ss sr : Sl) : Prop where
  hits : sh = ⟨none, 0, 0⟩
  ex : ∃ (st : WS) (S : List Hit) (R : List Rgn), WI v w N n6 k S st.heap (st.seen.map (·.1)) ss sr R ∧ S.Perm (st.seen.map (hitP q)) ∧ WOk q b (Pt.allL P) st ∧ R.map Rgn.core = st.rest.map coreW ∧ loopW q k b f st = walkE q k b P ∧ Pt.sizeL (st.heap.map (·.2)) ≤ f ∧ f ≤ Pt.sizeL P

/-- The walk's memory at its start. -/
theorem WI.start {v u : H} {N n6 : Nat} {k : Int} (hT : TopAt v N k u []) (hn : u n6 = none) : WI v (u.ins n6 (.cells #[.slice none 0 0] 149 (0, 0))) N n6 k [] [] [] ⟨none, 0, 0⟩ ⟨none, 0, 0⟩ [] := by
  have hv := hT.le
  have hvn : v n6 = none := le_none hv hn
  have hle := H.le_ins (u := u) (b := n6) (.cells #[.slice none 0 0] 149 (0, 0)) hn
  have hle2 := H.le_ins (u := v) (b := n6) (.cells #[.slice none 0 0] 149 (0, 0)) hvn
  refine ⟨⟨u, v.ins n6 (.cells #[.slice none 0 0] 149 (0, 0)), hle, fun c o hc => ?_, hv, hle2, fun c h1 h2 => ?_, hT, ⟨[], ⟨⟨⟨none, 0, 0⟩, H.ins_same _ _ _, OwnF.nil hle2 _ _, by simp [Sl.blk]⟩, hvn, by simp⟩, rfl, fun e he => (by cases he)⟩, fun s hs g hg => ?_⟩, OwnF.nil (hv.trans hle) _ _, RestAt.nil (hv.trans hle), fun s hs => ?_⟩
  · by_cases e : c = n6
    · subst e; rw [H.ins_same] at hc ⊢; exact hc
    · rw [H.ins_other _ _ e] at hc ⊢; exact hv c o hc
  · by_cases e : c = n6
    · subst e; exact absurd hn h1
    · rw [H.ins_other _ _ e] at h2; exact h2
  · simp at hs
    subst hs
    simp [Sl.blk] at hg
  · intro g hg
    simp [Sl.blk] at hg

theorem flat_ge {α : Type} {L : List (α × List Prw)} (h : ∀ x ∈ L, x.2 ≠ []) : L.length ≤ (L.flatMap (·.2)).length := by
  induction L with
  | nil => exact Nat.le_refl _
  | cons x L ih =>
    have h1 := ih fun y hy => h y (List.mem_cons_of_mem _ hy)
    have h2 : 0 < x.2.length := List.length_pos_iff.2 (h x (List.mem_cons_self ..))
    rw [List.flatMap_cons, List.length_append, List.length_cons]
    omega

theorem left_few {q : List Int} {b : Int} {Q : List Prw} {s : WS} (h : WOk q b Q s) : (leftW s).length ≤ Q.length := by
  have h1 := flat_ge fun x hx => (left_mem h x hx).2.1
  have h2 := h.perm.length_eq
  rw [← left_flat, List.length_append] at h2
  omega

/-- What is left of the first so many of a queue. -/
def leftN (s : WS) (x : Nat) : List (Pt × List Prw) := s.rest ++ ((s.heap.take x).map fun y => (y.2, y.2.all)).filter fun y => !y.2.isEmpty

theorem leftN_few {q : List Int} {b : Int} {Q : List Prw} {s : WS} (h : WOk q b Q s) (x : Nat) : (leftN s x).length ≤ Q.length := by
  refine Nat.le_trans (List.Sublist.length_le ?_) (left_few h)
  unfold leftN leftW
  exact (List.Sublist.refl _).append (((List.take_sublist x s.heap).map _).filter _)

theorem leftN_all (s : WS) {x : Nat} (h : s.heap.length ≤ x) : leftN s x = leftW s := by
  unfold leftN leftW
  rw [List.take_of_length_le h]

theorem leftN_succ {s : WS} {x : Nat} {e : Op1} (h : s.heap[x]? = some e) : leftN s (x + 1) = leftN s x ++ (if e.2.all = [] then [] else [(e.2, e.2.all)]) := by
  unfold leftN
  rw [List.take_add_one, h, Option.toList, List.map_append, List.filter_append, List.append_assoc]
  congr 2
  cases e2 : e.2.all <;> simp [e2]

theorem heap_all_le {q : List Int} {b : Int} {Q : List Prw} {s : WS} (h : WOk q b Q s) {e : Op1} (he : e ∈ s.heap) : e.2.all.length ≤ Q.length := by
  have h1 := (sub_sum (f := fun x : Op1 => x.2.all) he).length_le
  have h2 := h.perm.length_eq
  rw [List.length_append, List.length_append] at h2
  omega

theorem heap_size_le {l : List Op1} {e : Op1} (he : e ∈ l) : e.2.size ≤ Pt.sizeL (l.map (·.2)) := by
  induction l with
  | nil => cases he
  | cons x l ih =>
    simp only [List.map_cons, Pt.sizeL]
    rcases List.mem_cons.1 he with rfl | he
    · omega
    · have := ih he; omega

theorem regok_small {p : Pt} {d : Int} (h : RegOk (p.rgn []) d) : p.lo.length ≤ 64 ∧ p.hi.length ≤ 64 := by
  have hd := h.dim
  rcases h.shape with ⟨_, h1, h2, _⟩ | ⟨_, _, h1, h2, _⟩ | ⟨_, h1, h2, _⟩
  · have h1' : p.lo = [] := h1
    have h2' : p.hi = [] := h2
    rw [h1', h2']; simp
  · exact ⟨h1.1, h2.1⟩
  · have h1' : p.hi = [] := h1
    rw [h1']
    exact ⟨h2.1, by simp⟩

/-- The answer of a walk's memory. -/
theorem wi_ans {u v z u1 u2 : H} {N n6 : Nat} {k : Int} {S : List Hit} {l : List Op1} {ids ids' : List Int} {sh ss sr : Sl} {R : List Rgn} {H1 : List Hit} (luv : u.le v) (hW : WI v z N n6 k S l ids ss sr R)
    (h1 : OwnF v u1 3 1 ss (ids'.flatMap encI)) (he : Else z u1 ss) (h2 : OwnF u1 u2 66 3 sh (H1.flatMap encH)) : AnsO u u2 sh ss sr H1 ids' R := by
  have hR1 : RestAt v u1 sr R := hW.rest.stay h1.le fun s hs g o hg ho => he g o ho fun e => hW.far s hs g e hg
  have hR2 := hR1.mono h2.le
  have hss := h1.mono h2.le
  refine ⟨h2.weaken (luv.trans h1.le), hss.weaken luv, hR2.own.weaken luv, fun r hr => ⟨(hR2.each r hr).l.weaken luv, (hR2.each r hr).h.weaken luv, (hR2.each r hr).i.weaken luv⟩, ?_⟩
  have kn : ∀ s ∈ ss :: sr :: R.flatMap Rgn.sls, ∀ g, s.blk = some g → u1 g ≠ none := by
    intro s hs g hg
    rcases List.mem_cons.1 hs with rfl | hs
    · exact own_known h1 hg
    · rcases List.mem_cons.1 hs with rfl | hs
      · exact own_known hR1.own hg
      · obtain ⟨y, hy, hty⟩ := List.mem_flatMap.1 hs
        obtain ⟨xs, hx⟩ := own3_sls (hR1.each y hy) s hty
        exact own_known hx hg
  unfold ansS
  refine List.pairwise_cons.2 ⟨fun s hs g hg hg2 => kn s hs g hg2 (h2.fresh g hg), List.pairwise_cons.2 ⟨fun s hs => hW.far s hs, hR2.far⟩⟩

/-- A step of the loop. -/
theorem at_step {q : List Int} {k b : Int} {P : List Pt} {st : WS} {f : Nat} (hgo : goW q k b st) (hok : WOk q b (Pt.allL P) st) (hl : loopW q k b f st = walkE q k b P) (hs : Pt.sizeL (st.heap.map (·.2)) ≤ f) :
    ∃ f', f = f' + 1 ∧ loopW q k b f' (stepW q b st) = walkE q k b P ∧ Pt.sizeL ((stepW q b st).heap.map (·.2)) ≤ f' ∧ WOk q b (Pt.allL P) (stepW q b st) := by
  have h1 := step_size hok hgo
  cases f with
  | zero => omega
  | succ f => exact ⟨f, rfl, by rw [← loopW_go hgo]; exact hl, by omega, stepW_ok hok hgo⟩

end Go.Proofs.YtljbcihbgeiacaaGreat

/- VcWlk5 -/
namespace Go.Proofs.YtljbcihbgeiacaaGreat

theorem spec.flat_Walk {u : H} {s0 t : Sl} {ms : List Nat} {P : List Pt} {q : List Int} {k b : Int} {K : Sl → Sl → Sl → H → Prop} (hs : Seg u s0 1 (ms.map fun n => .pointer (some ⟨n, 0, none⟩))) (hlen : ms.length = P.length)
    (hp : ∀ (i : Nat) m p, ms[i]? = some m → P[i]? = some p → PartAt u m p) (hok : ∀ p ∈ P, PtOk q.length p) (ht : Ints u t q) (hq : vok q) (k1 : 1 ≤ k) (k2 : k ≤ 64) (b0 : 0 ≤ b) (b1 : b ≤ 1000000) (hsz : Pt.sizeL P ≤ 4000000) (hal : (Pt.allL P).length ≤ 100000)
    (hrows : ∀ x ∈ Pt.allL P, (x.2.length : Int) = q.length ∧ vok x.2)
    (hK : ∀ sh ss sr R u', AnsO u u' sh ss sr (topW q k (walkE q k b P)) (sortI ((walkE q k b P).seen.map (·.1))) R → R.map Rgn.core = (leftW (walkE q k b P)).map coreW → K sh ss sr u') : C.flat_Walk s0 t k b u K := by
  apply vc.flat_Walk
  intro n0 hn0
  refine spec.topk_New (fun hx => absurd hx (by omega)) fun _ _ N u3 l3 hN hT0 => ?_
  intro n4 hn4
  refine ⟨_, _, H.ins_same _ _ _, rfl, by simp, by simp [Value.oneCell'], ?_⟩
  intro n6 hn6
  rw [H.ins_ins] at hn6 ⊢
  obtain ⟨oB, hoB⟩ : ∃ oB, oB = (Obj.cells (wr #[Value.pointer none] 0 [Value.pointer (some ⟨N, 0, none⟩)]) 122 (0, 0)) := ⟨_, rfl⟩
  rw [← hoB] at hn6 ⊢
  obtain ⟨o0, ho0⟩ : ∃ o0, o0 = (Obj.cells #[Value.slice t.a t.n t.c] 41 (0, 0)) := ⟨_, rfl⟩
  rw [← ho0] at hT0 l3 hN
  have hT := hT0.rebase hn4 oB
  have hv1n4 : (u.ins n0 o0) n4 = none := le_none l3 hn4
  obtain ⟨v, hv⟩ : ∃ v, v = (u.ins n0 o0).ins n4 oB := ⟨_, rfl⟩
  rw [← hv] at hT
  have luv : u.le v := by rw [hv]; exact (H.le_ins _ hn0).trans (H.le_ins _ hv1n4)
  have c0v : v.cell? ⟨n0, 0, none⟩ = some (.slice t.a t.n t.c) := by
    have h1 : (u.ins n0 o0) n0 = some o0 := H.ins_same _ _ _
    have h2 : v n0 = some o0 := by rw [hv]; exact H.le_ins _ hv1n4 _ _ h1
    rw [ho0] at h2
    exact H.cell?_of h2 0
  have c4v : v.cell? ⟨n4, 0, none⟩ = some (.pointer (some ⟨N, 0, none⟩)) := by
    have h2 : v n4 = some oB := by rw [hv]; exact H.ins_same _ _ _
    rw [hoB] at h2
    exact H.cell?_of h2 0
  have W0 := WI.start hT hn6
  have htv := ht.mono luv
  have hpv : ∀ (i : Nat) m p, ms[i]? = some m → P[i]? = some p → PartAt v m p := fun i m p h1 h2 => (hp i m p h1 h2).mono luv
  have hsn : s0.n = ms.length := by have := hs.len; simpa using this.symm
  have hsm := Nat.le_trans (Seg.cap hs) (Seg.max hs)
  refine ⟨fun x w => 0 ≤ x ∧ x ≤ s0.n ∧ WI v w N n6 k [] ((P.take x.toNat).foldl (addW q) []) [] ⟨none, 0, 0⟩ ⟨none, 0, 0⟩ [], fun x _ => ((s0.n : Int) - x).toNat, ⟨by omega, by omega, W0⟩, fun x w hI => ⟨fun hx => ?_, fun hx => ?_⟩⟩
  · obtain ⟨x0, x1, W⟩ := hI
    have hxl : x.toNat < ms.length := by omega
    obtain ⟨a, ha, hc⟩ := ptr_at (hs.mono (luv.trans W.le)) hxl
    have hP : P[x.toNat]? = some P[x.toNat] := List.getElem?_eq_getElem (by omega)
    have hpk := hok _ (List.getElem_mem (show x.toNat < P.length by omega))
    have hlen2 : ((P.take x.toNat).foldl (addW q) []).length < 10000000 := by
      have h0' : Hp blt ([] : List Op1).length [] := fun i _ hi => by simp at hi
      have h1 := (foldl_add (q := q) (P.take x.toNat) [] h0').2.length_eq
      rw [List.nil_append, List.length_map, List.length_take] at h1
      have h2 := len_size P
      omega
    refine ⟨a, ha, ⟨x0, hx⟩, _, hc, .inl ⟨_, _, _, rfl, bodyOf bWalk1, spec.wi_add W hlen2 (hpv _ _ _ (List.getElem?_eq_getElem hxl) hP) hpk.reg hq c0v htv fun u' hW => ⟨⟨by omega, by omega⟩, ⟨by omega, by omega, ?_⟩, by dsimp only; omega⟩⟩⟩
    rw [show (x + 1).toNat = x.toNat + 1 by omega, List.take_add_one, hP, List.foldl_append]
    exact hW
  · obtain ⟨x0, x1, W⟩ := hI
    rw [List.take_of_length_le (by omega)] at W
    intro K14 h14
    refine ⟨fun s57 s58 s59 w => ∃ f, At v w N n6 k b q P f s57 s58 s59, fun s57 s58 s59 w => least fun f => At v w N n6 k b q P f s57 s58 s59, ⟨Pt.sizeL P, rfl, startW q P, [], [], W, .refl _, startW_ok b0 hok, rfl, rfl, start_size q P, Nat.le_refl _⟩, fun s57 s58 s59 w hI => ?_⟩
    have hf := least_is hI
    generalize hfe : (least fun f => At v w N n6 k b q P f s57 s58 s59) = f at hf
    obtain ⟨h57, st, S, R, hW, hS, hwok, hR, hloop, hsize, hfl⟩ := hf
    obtain rfl : s57 = ⟨none, 0, 0⟩ := h57
    intro K61 h61
    obtain ⟨sq, e1, e2, e3⟩ := hW.slice
    have hseen : s58.n = st.seen.length := by have h := hW.seen.ints.len; rw [List.length_map] at h; exact h
    have hheapl : st.heap.length ≤ 4000000 := by have h := len_size (st.heap.map (·.2)); rw [List.length_map] at h; omega
    have hmemP : ∀ x ∈ st.seen, x ∈ Pt.allL P := fun x hx => hwok.perm.mem_iff.1 (List.mem_append_left _ hx)
    have hdok : ∀ g ∈ S, Dok g.2 := fun g hg => by
      obtain ⟨x, hx, rfl⟩ := List.mem_map.1 (hS.mem_iff.1 hg)
      obtain ⟨g1, g2⟩ := hrows x (hmemP x hx)
      exact sqTo_ok g2 hq (by omega)
    have htop : topW q k st = topk k.toNat S := topk_eq hS.symm
    have hRl : R.length = st.rest.length := by have := congrArg List.length hR; simpa using this
    have fin : ¬ goW q k b st → K14 ⟨none, 0, 0⟩ s58 s59 w := fun hng => by
      have hst : walkE q k b P = st := by rw [← hloop, loopW_stop hng]
      obtain ⟨uT, uQ, t1, q1, t2, q2, hap, hTT, hQ, hfr⟩ := hW.ex
      obtain ⟨sq, e1, e2, e3⟩ := hQ.slice
      refine h14 ⟨none, 0, 0⟩ s58 s59 w ⟨sq, q1.cell e1, fun x s23 s24 s25 z => 0 ≤ x ∧ x ≤ sq.n ∧ s23 = ⟨none, 0, 0⟩ ∧ s24 = s58 ∧ uT.le z ∧ uQ.le z ∧ (∀ g, s25.blk = some g → uT g = none ∧ uQ g = none) ∧ ∃ R', WI v z N n6 k S st.heap (st.seen.map (·.1)) s58 s25 R' ∧ R'.map Rgn.core = (leftN st x.toNat).map coreW, fun x _ _ _ _ => ((sq.n : Int) - x).toNat,
        ⟨by omega, by omega, rfl, rfl, t1, q1, fun g hg => hfr s59 (by simp) g hg, R, hW, by rw [hR]; simp [leftN]⟩, ?_⟩
      rintro x s23 s24 s25 z ⟨x0, x1, h23, h24, tz, qz, hz, R', hW', hR'⟩
      obtain rfl : s23 = ⟨none, 0, 0⟩ := h23
      obtain rfl : s24 = s58 := h24
      have hRl' : R'.length = (leftN st x.toNat).length := by have := congrArg List.length hR'; simpa using this
      have hfew := leftN_few hwok x.toNat
      refine ⟨fun hx => ?_, fun hx => ?_⟩
      · obtain ⟨p, m, e, g1, g2, g3, g4, g5, g6⟩ := e3 x x0 hx
        have hem : e ∈ st.heap := List.mem_of_getElem? g2
        have hbnd := heap_all_le hwok hem
        obtain ⟨en1, en2⟩ := hwok.near e hem
        have hsucc := leftN_succ g2
        refine ⟨p, g1, ⟨x0, hx⟩, _, qz.cell g4, _, qz.cell g5, _, qz.cell g6, spec.flat_Part__All g3 hW'.le (by omega) fun s31 L u32 o31 hL hI => ⟨fun hpos => ?_, fun hno => ?_⟩⟩
        · have hn31 := flat_n encR_len (by decide) o31.own.seg
          have hLl : L.length = e.2.all.length := by rw [← hL, List.length_map]
          have hne : e.2.all ≠ [] := fun h0 => by rw [h0] at hLl; simp at hLl; rw [hLl] at hn31; simp at hn31; omega
          rw [if_neg hne] at hsucc
          cases g3 with
          | mk ls hs' is rs ks rows ps cell isn lo hi at' pr kids len each =>
          have vu : v.le u32 := hW'.le.trans o31.le
          have hc := vu _ _ cell
          obtain ⟨lo64, hi64⟩ := regok_small en2.reg
          have hrw : Rws u32 s31 L := ⟨o31.own.seg, fun r hr => (hI r hr).mono vu⟩
          have hids : sortI (L.map (·.id)) = sortI (e.2.all.map (·.1)) := by rw [← hL, List.map_map]; rfl
          refine ⟨_, rfl, _, H.cell?_of hc 0, ls, H.cell?_of hc 1, hs', H.cell?_of hc 2, _, H.cell?_of hc 3, _, H.cell?_of hc 4, is, H.cell?_of hc 5,
            spec.flat_region (lo.mono vu) (hi.mono vu) hrw lo64 hi64 (by omega) fun a b' c u46 oa ob oc f1 f2 f3 => ⟨oa.le, ?_⟩⟩
          have hW2 := hW'.mono o31.le
          have := wi_left (r := ⟨e.2.sh, a, b', e.2.rad, c, e.2.lo, e.2.hi, sortI (L.map (·.id))⟩) hW2 oa.le ⟨oa, ob, oc⟩ f1 f2 f3 (by omega)
            (K := fun (s49 : Sl) (u50 : H) => InR (x + 1) ∧ (0 ≤ x + 1 ∧ x + 1 ≤ (sq.n : Int) ∧ (⟨none, 0, 0⟩ : Sl) = ⟨none, 0, 0⟩ ∧ s24 = s24 ∧ uT.le u50 ∧ uQ.le u50 ∧ (∀ g, s49.blk = some g → uT g = none ∧ uQ g = none) ∧ ∃ R', WI v u50 N n6 k S st.heap (st.seen.map (·.1)) s24 s49 R' ∧ R'.map Rgn.core = (leftN st (x + 1).toNat).map coreW) ∧ ((sq.n : Int) - (x + 1)).toNat < ((sq.n : Int) - x).toNat)
            fun s49 u50 hW3 hel hbl => ⟨⟨by omega, by omega⟩, ⟨by omega, by omega, rfl, rfl, fun g o hg => hel g o (oa.le _ _ (o31.le _ _ (tz g o hg))) fun e0 => (by rw [(hz g e0).1] at hg; cases hg), fun g o hg => hel g o (oa.le _ _ (o31.le _ _ (qz g o hg))) fun e0 => (by rw [(hz g e0).2] at hg; cases hg), fun g hg => ?_, _, hW3, ?_⟩, by omega⟩
          · exact SemT.slice_mono this fun s1 v1 h => ⟨oa.le.trans h.1, h.2⟩
          · rcases hbl g hg with h1 | h1
            · exact hz g h1
            · have h2 := le_none (o31.le.trans oa.le) h1
              exact ⟨le_none tz h2, le_none qz h2⟩
          · rw [show (x + 1).toNat = x.toNat + 1 by omega, hsucc, List.map_append, List.map_append, hR']
            simp only [List.map_cons, List.map_nil, Rgn.core, coreW, hids]
        · have hn31 := flat_n encR_len (by decide) o31.own.seg
          have hLl : L.length = e.2.all.length := by rw [← hL, List.length_map]
          have hnil : e.2.all = [] := List.eq_nil_of_length_eq_zero (by omega)
          rw [if_pos hnil, List.append_nil] at hsucc
          exact ⟨⟨by omega, by omega⟩, ⟨by omega, by omega, rfl, rfl, tz.trans o31.le, qz.trans o31.le, hz, R', hW'.mono o31.le, by rw [show (x + 1).toNat = x.toNat + 1 by omega, hsucc]; exact hR'⟩, by dsimp only; omega⟩
      · have hsl := hwok.few
        rw [leftN_all st (by omega)] at hR'
        refine spec.slices_Sort___int_int_ hW'.seen (by rw [List.length_map]; omega) fun u51 ho51 he51 => ⟨_, ho51.le.cell c4v, ?_⟩
        have tT : uT.le u51 := fun g o hg => he51 g o (tz g o hg) fun e0 => by rw [(hfr s24 (by simp) g e0).1] at hg; cases hg
        refine spec.topk_Heap__List (hTT.whole tT) fun s53 u54 o53 => ?_
        have hans := wi_ans luv hW' ho51 he51 o53
        rw [← htop, ← hst] at hans
        rw [← hst] at hR'
        exact hK _ _ _ _ _ hans hR'
    have hSl : S.length = st.seen.length := by have := hS.length_eq; rwa [List.length_map] at this
    refine ⟨sq, e1, vc.flat_queue__Len _ _ _ ⟨fun hlen => ⟨fun hb => ?_, fun hb => fin fun hg => by have := hg.2.1; omega⟩, fun hlen => fin fun hg => ?_⟩⟩
    · obtain ⟨p, m, e, g1, g2, g3, g4, g5, g6⟩ := e3 0 (by omega) (by omega)
      have ehead : st.heap.getD 0 default = e := by rw [List.getD_eq_getElem?_getD]; rw [show (0 : Int).toNat = 0 from rfl] at g2; rw [g2]; rfl
      have hem : e ∈ st.heap := List.mem_of_getElem? g2
      obtain ⟨en1, en2⟩ := hwok.near e hem
      have hde : Dok e.1 := by rw [en1]; exact nearR_ok en2.reg hq
      refine ⟨sq, e1, p, g1, ⟨by omega, by omega⟩, _, g5, _, by rw [Addr.add_add']; exact g6, .inl ⟨_, _, _, rfl, bodyOf bWalk2, spec.wi_done hW k1 hdok c4v (hiU hde) (loU _) fun bb hbb => ?_⟩⟩
      rw [wv_hl, hSl] at hbb
      have hfull : bb = true ↔ fullW q k st (st.heap.getD 0 default).1 := by
        rw [hbb, ehead]
        unfold fullW
        rw [htop]
      refine ⟨fun hnd => h61 _ ?_, fun hd => fin fun hg => hg.2.2 (hfull.1 hd)⟩
      have hgo : goW q k b st := ⟨fun e0 => (by rw [e0] at hem; cases hem), by omega, fun hf => hnd (hfull.2 hf)⟩
      clear fin h14 hfull
      obtain ⟨f', hff, hloop', hsize', hwok'⟩ := at_step hgo hwok hloop hsize
      have hhl : 0 < st.heap.length := List.length_pos_iff.2 hgo.1
      have hrest0 : st.rest = [] := by
        by_cases e0 : st.rest = []
        · exact e0
        · have := hwok.cut e0; omega
      have hmeas : ∀ {sa sb sc : Sl} {z : H}, At v z N n6 k b q P f' sa sb sc → least (fun f => At v z N n6 k b q P f sa sb sc) < least fun f => At v w N n6 k b q P f ⟨none, 0, 0⟩ s58 s59 := fun {sa sb sc z} h => by
        rw [hfe]
        exact Nat.lt_of_le_of_lt (least_le h) (by omega)
      refine spec.wi_pop hW hwok.hp hhl fun u64 m1 hW1 hpart => sem_assertQ ?_
      rw [ehead] at hpart ⊢
      have hall := heap_all_le hwok hem
      rw [Pt.all_eq, List.length_append] at hall
      obtain ⟨p1, p2, p3, _⟩ := popF_ok bltOk hwok.hp hhl
      have hsz2 := heap_size_le hem
      have hsz3 := len_size (st.heap.map (·.2))
      rw [List.length_map] at hsz3
      rw [Pt.size_eq] at hsz2
      have hkl := len_size e.2.kids
      have hpl := p1.length_eq
      rw [List.length_cons] at hpl
      cases hpart with
      | mk ls hs' is rs ks rows ps cell isn lo hi at' pr kids len each =>
      have hkn : ks.n = ps.length := by have := kids.len; simpa using this.symm
      have hrl : e.2.rows.length = rows.length := by rw [← pr, List.length_map]
      have hrn := at'.len
      refine ⟨_, rfl, ks, H.cell?_of (hW1.le _ _ cell) 7, fun x z => 0 ≤ x ∧ x ≤ ks.n ∧ WI v z N n6 k S ((e.2.kids.take x.toNat).foldl (addW q) (popF blt st.heap)) (st.seen.map (·.1)) s58 s59 R, fun x _ => ((ks.n : Int) - x).toNat, ⟨by omega, by omega, by simpa using hW1⟩, ?_⟩
      rintro x z ⟨x0, x1, hWx⟩
      refine ⟨fun hx => ?_, fun hx => ?_⟩
      · have hxl : x.toNat < ps.length := by omega
        obtain ⟨a, ha, hc⟩ := ptr_at (kids.mono hWx.le) hxl
        have hP : e.2.kids[x.toNat]? = some e.2.kids[x.toNat] := List.getElem?_eq_getElem (by omega)
        have hpk := en2.kids _ (List.getElem_mem (show x.toNat < e.2.kids.length by omega))
        have hlen2 : ((e.2.kids.take x.toNat).foldl (addW q) (popF blt st.heap)).length < 10000000 := by
          have h1 := (foldl_add (q := q) (e.2.kids.take x.toNat) _ p2).2.length_eq
          rw [List.length_append, List.length_map, List.length_take] at h1
          omega
        refine ⟨a, ha, ⟨x0, hx⟩, _, hc, .inl ⟨_, _, _, rfl, bodyOf bWalk1, spec.wi_add hWx hlen2 (each _ _ _ (List.getElem?_eq_getElem hxl) hP) hpk.reg hq c0v htv fun u' hW => ⟨⟨by omega, by omega⟩, ⟨by omega, by omega, ?_⟩, by dsimp only; omega⟩⟩⟩
        rw [show (x + 1).toNat = x.toNat + 1 by omega, List.take_add_one, hP, List.foldl_append]
        exact hW
      · rw [List.take_of_length_le (by omega)] at hWx
        have hsteph : (stepW q b st).heap = e.2.kids.foldl (addW q) (popF blt st.heap) := by unfold stepW; rw [ehead]
        have hsteps : (stepW q b st).seen = st.seen ++ e.2.rows.take (b - st.seen.length).toNat := by unfold stepW; rw [ehead]
        have hstepr : (stepW q b st).rest = if (e.2.rows.length : Int) ≤ b - st.seen.length then st.rest else st.rest ++ [(e.2, e.2.rows.drop (b - st.seen.length).toNat)] := by unfold stepW; rw [ehead]
        rw [← hsteph] at hWx
        refine ⟨_, rfl, rs, H.cell?_of (hWx.le _ _ cell) 6, fun x s83 s84 s85 z => 0 ≤ x ∧ x ≤ rs.n ∧ s83 = ⟨none, 0, 0⟩ ∧ s85 = s59 ∧ st.seen.length + x ≤ b ∧ ∃ S', WI v z N n6 k S' (stepW q b st).heap ((st.seen ++ e.2.rows.take x.toNat).map (·.1)) s84 s59 R ∧ S'.Perm ((st.seen ++ e.2.rows.take x.toNat).map (hitP q)),
          fun x _ _ _ _ => ((rs.n : Int) - x).toNat, ⟨by omega, by omega, rfl, rfl, by have := hwok.few; omega, S, by simpa using hWx, by simpa using hS⟩, ?_⟩
        clear x0 x1 hx hWx x z
        rintro x s83 s84 s85 z ⟨x0, x1, h83, h85, xb, S', hWz, hS'⟩
        obtain rfl : s83 = ⟨none, 0, 0⟩ := h83
        obtain rfl : s85 = s59 := h85
        have hn84 : s84.n = st.seen.length + min x.toNat e.2.rows.length := by have h := hWz.seen.ints.len; rw [List.length_map, List.length_append, List.length_take] at h; exact h
        refine ⟨fun hx => ?_, fun hx => ?_⟩
        · obtain ⟨pp, hpp, r, hr, c0, c1, c2⟩ := (at'.mono hWz.le).at x0 hx
          have hrr : e.2.rows[x.toNat]? = some r.pr := by rw [← pr, List.getElem?_map, hr]; rfl
          have hrP : r.pr ∈ Pt.allL P := hwok.perm.mem_iff.1 (List.mem_append_right _ (List.mem_append_right _ (List.mem_flatMap.2 ⟨e, hem, by rw [Pt.all_eq]; exact List.mem_append_left _ (List.mem_of_getElem? hrr)⟩)))
          obtain ⟨rv1, rv2⟩ := hrows _ hrP
          have rv1' : (r.v.length : Int) = q.length := rv1
          have rv2' : vok r.v := rv2
          refine ⟨pp, hpp, ⟨x0, hx⟩, _, c0, _, c1, fun hb84 => ?_, fun hb84 => ?_⟩
          · have hc := hWz.le _ _ cell
            obtain ⟨lo64, hi64⟩ := regok_small en2.reg
            have hbx : (b - st.seen.length).toNat = x.toNat := by omega
            have hcut : ¬ (e.2.rows.length : Int) ≤ b - st.seen.length := by omega
            rw [if_neg hcut, hbx] at hstepr
            rw [hbx] at hsteps
            have hpt := (at'.mono hWz.le).part (l := x.toNat) (h := rs.n) (m := rs.c) (by omega) (Nat.le_refl _) at'.1.cap (Nat.le_refl _)
            have htk : (rows.drop x.toNat).take (rs.n - x.toNat) = rows.drop x.toNat := List.take_of_length_le (by rw [List.length_drop]; omega)
            rw [htk] at hpt
            have hids : sortI ((rows.drop x.toNat).map (·.id)) = sortI ((e.2.rows.drop x.toNat).map (·.1)) := by rw [← pr, ← List.map_drop, List.map_map]; rfl
            refine ⟨_, rfl, _, rfl, _, H.cell?_of hc 0, ls, H.cell?_of hc 1, hs', H.cell?_of hc 2, _, H.cell?_of hc 3, _, H.cell?_of hc 4, is, H.cell?_of hc 5, rs, H.cell?_of hc 6,
              sem_slice tRows (l := x.toNat) (h := rs.n) (m := rs.c) (.inr (by rw [Int.toNat_of_nonneg x0])) (.inl ⟨rfl, rfl⟩) (.inl ⟨rfl, rfl⟩) (by omega) at'.1.cap (Nat.le_refl _) at'.1.cap ⟨H.le.refl _,
              spec.flat_region (lo.mono hWz.le) (hi.mono hWz.le) hpt lo64 hi64 (by rw [List.length_drop]; omega) fun a b' c u46 oa ob oc f1 f2 f3 => ⟨oa.le, ?_⟩⟩⟩
            have := wi_left (r := ⟨e.2.sh, a, b', e.2.rad, c, e.2.lo, e.2.hi, sortI ((rows.drop x.toNat).map (·.id))⟩) hWz oa.le ⟨oa, ob, oc⟩ f1 f2 f3 (by rw [hRl, hrest0]; simp)
              (K := fun (s110 : Sl) (u111 : H) => (∃ f, At v u111 N n6 k b q P f ⟨none, 0, 0⟩ s84 s110) ∧ (least fun f => At v u111 N n6 k b q P f ⟨none, 0, 0⟩ s84 s110) < least fun f => At v w N n6 k b q P f ⟨none, 0, 0⟩ s58 s85)
              fun s110 u111 hW3 _ _ => ?_
            · exact SemT.slice_mono this fun s1 v1 h => ⟨oa.le.trans h.1, h.2⟩
            · have hAt : At v u111 N n6 k b q P f' ⟨none, 0, 0⟩ s84 s110 := ⟨rfl, stepW q b st, S', _, by rw [hsteps]; exact hW3, by rw [hsteps]; exact hS', hwok', by rw [hstepr, List.map_append, List.map_append, hR]; simp only [List.map_cons, List.map_nil, Rgn.core, coreW, hids], hloop', hsize', by omega⟩
              exact ⟨⟨f', hAt⟩, hmeas hAt⟩
          · refine ⟨t, hWz.le.cell c0v, spec.vec_Dist c2 (htv.mono hWz.le) rv2' (by have := en2.reg.dim; omega) hq (by omega) fun x113 x114 hx3 hx4 hw => ⟨_, hWz.le.cell c4v, ?_⟩⟩
            have e3' : x113 = hiW (hitP q r.pr).2 := by show x113 = hiW (sqTo r.v q r.v.length); rw [← hw, hi_wv hx4]
            have e4' : x114 = loW (hitP q r.pr).2 := by show x114 = loW (sqTo r.v q r.v.length); rw [← hw, lo_wv hx4]
            rw [e3', e4']
            refine spec.wi_Offer (x := hitP q r.pr) hWz k1 k2 fun bb u119 hWo => wi_see hWo (by rw [List.length_map, List.length_append, List.length_take]; omega) fun s' u123 hWs => ⟨⟨by omega, by omega⟩, ⟨by omega, by omega, rfl, rfl, by omega, hitP q r.pr :: S', ?_, ?_⟩, by dsimp only; omega⟩
            · have et : e.2.rows.take (x + 1).toNat = e.2.rows.take x.toNat ++ [r.pr] := by
                rw [show (x + 1).toNat = x.toNat + 1 by omega, List.take_add_one, hrr]; rfl
              rw [et, ← List.append_assoc, List.map_append]
              exact hWs
            · have et : e.2.rows.take (x + 1).toNat = e.2.rows.take x.toNat ++ [r.pr] := by
                rw [show (x + 1).toNat = x.toNat + 1 by omega, List.take_add_one, hrr]; rfl
              rw [et, ← List.append_assoc, List.map_append]
              exact (List.Perm.cons _ hS').trans (List.perm_append_singleton _ _).symm
        · have hfit : (e.2.rows.length : Int) ≤ b - st.seen.length := by omega
          rw [if_pos hfit] at hstepr
          rw [List.take_of_length_le (by omega)] at hWz hS'
          rw [List.take_of_length_le (by omega)] at hsteps
          have hAt : At v z N n6 k b q P f' ⟨none, 0, 0⟩ s84 s85 := ⟨rfl, stepW q b st, S', R, by rw [hsteps]; exact hWz, by rw [hsteps]; exact hS', hwok', by rw [hstepr]; exact hR, hloop', hsize', by omega⟩
          exact ⟨⟨f', hAt⟩, hmeas hAt⟩
    · have hne := hg.1
      have := List.length_pos_iff.2 hne
      omega

end Go.Proofs.YtljbcihbgeiacaaGreat

/- VcIv7 -/
namespace Go.Proofs.YtljbcihbgeiacaaGreat.Iv

theorem tParts : elemT Tryz.prog 102 = some (108, 1, 8, [.pointer none]) := by kernel_rfl
theorem build_part1 (n : Nat) : buildOf Tryz.prog 102 1 #[(0, .pointer (some ⟨n, 0, none⟩))] = some (108, [.pointer (some ⟨n, 0, none⟩)]) := by kernel_rfl

theorem answ {u0 u u' : H} {sh ss sr : Sl} {hits : List Hit} {seen : List Int} {rest : List Rgn} (h : AnsO u u' sh ss sr hits seen rest) (hu : u0.le u) : AnsO u0 u' sh ss sr hits seen rest :=
  ⟨h.h.weaken hu, h.s.weaken hu, h.r.weaken hu, fun r hr => ⟨(h.g r hr).l.weaken hu, (h.g r hr).h.weaken hu, (h.g r hr).i.weaken hu⟩, h.far⟩

theorem partsI_get : ∀ (cs : List (Sl × List Int)) (ls : List (Sl × List Rw)) {i : Nat} {c l}, cs[i]? = some c → ls[i]? = some l → (partsI cs ls)[i]? = some (partI c.2 l.2) := by
  intro cs
  induction cs with
  | nil => intro ls i c l h; simp at h
  | cons x cs ih =>
    intro ls i c l h1 h2
    cases ls with
    | nil => simp at h2
    | cons y ls =>
      cases i with
      | zero =>
        simp only [List.getElem?_cons_zero, Option.some.injEq] at h1 h2
        subst h1; subst h2
        rfl
      | succ i =>
        simp only [List.getElem?_cons_succ] at h1 h2
        exact ih ls h1 h2

theorem partsI_len : ∀ (cs : List (Sl × List Int)) (ls : List (Sl × List Rw)), cs.length = ls.length → (partsI cs ls).length = ls.length ∧ Pt.sizeL (partsI cs ls) = ls.length := by
  intro cs
  induction cs with
  | nil => intro ls h; cases ls with
    | nil => exact ⟨rfl, rfl⟩
    | cons => simp at h
  | cons x cs ih =>
    intro ls h
    cases ls with
    | nil => simp at h
    | cons y ls =>
      obtain ⟨h1, h2⟩ := ih ls (by simpa using h)
      simp only [partsI, List.length_cons, Pt.sizeL, h1, h2]
      refine ⟨trivial, ?_⟩
      have : (partI x.2 y.2).size = 1 := by rw [Pt.size_eq]; rfl
      omega

theorem spec.Search {u0 u : H} {fp : Nat → Option Tg} {b : Nat} {T : Tr} {t : Sl} {q : List Int} {k bud : Int} {K : Sl → Sl → Sl → Int → H → Prop} (h : In u0 u fp b T) (hT : TOk T) (ht : Ints u t q)
    (hbad : askErr q T.dim k bud ≠ 0 → K ⟨none, 0, 0⟩ ⟨none, 0, 0⟩ ⟨none, 0, 0⟩ (askErr q T.dim k bud) u)
    (hok : askErr q T.dim k bud = 0 → ∀ sh ss sr rest u', AnsO u u' sh ss sr (ixH T q k bud) (ixS T q k bud) rest → rest.map Rgn.core = ixR T q k bud → K sh ss sr 0 u') : C.ivf_Tree__Search (some ⟨b, 0, none⟩) t k bud u K := by
  obtain ⟨c0, c1, c2, c3⟩ := tree_cells h.tr
  apply vc.ivf_Tree__Search
  refine ⟨fun e => (by cases e), fun _ => ⟨_, rfl, _, c0, spec.flat_Asked ht ⟨fun hne => hbad hne, fun he => ⟨_, rfl, T.sl, c2, ?_⟩⟩⟩⟩
  obtain ⟨hv, k1, k2, b0, b1⟩ : vcheck q T.dim = 0 ∧ 1 ≤ k ∧ k ≤ 64 ∧ 0 ≤ bud ∧ bud ≤ 1000000 := by
    unfold askErr at he
    split at he
    · rename_i h1; exact absurd he h1
    · rename_i h1
      split at he
      · cases he
      · exact ⟨by simpa using h1, by omega, by omega, by omega, by omega⟩
  obtain ⟨_, _, hql, hvq⟩ := vcheck_ok hv
  have hlsn := h.tr.ls_len
  have hlm := hT.many
  have hcsn := h.tr.vcs.len
  have hrok := hT.rok
  have hbnd : (T.ls.flatMap (·.2)).length ≤ 512 := by rw [← hT.wlen]; exact hT.small
  refine ⟨fun s8 x w => 0 ≤ x ∧ x ≤ T.sl.n ∧ ∃ (ms : List Nat) (vP : H), ms.length = x.toNat ∧ OwnF u w 108 1 s8 (ms.map fun n => .pointer (some ⟨n, 0, none⟩)) ∧ u.le vP ∧ vP.le w ∧ (∀ g, s8.blk = some g → vP g = none) ∧
      ∀ (i : Nat) m p, ms[i]? = some m → (partsI T.cs T.ls)[i]? = some p → PartAt vP m p, fun _ x _ => ((T.sl.n : Int) - x).toNat,
    ⟨by omega, by omega, [], u, rfl, OwnF.nil (H.le.refl u) _ _, H.le.refl u, H.le.refl u, fun g hg => by simp [Sl.blk] at hg, fun i m p hm => by simp at hm⟩, ?_⟩
  rintro s8 x w ⟨x0, x1, ms, vP, hms, ho, uP, hP, hb8, hparts⟩
  have hn8 : s8.n = ms.length := by have := ho.own.len; simpa using this.symm
  refine ⟨fun hx => ?_, fun hx => ?_⟩
  · have hxl : x.toNat < T.ls.length := by omega
    have hl : T.ls[x.toNat]? = some T.ls[x.toNat] := List.getElem?_eq_getElem hxl
    have hcx : T.cs[x.toNat]? = some T.cs[x.toNat] := List.getElem?_eq_getElem (by omega)
    generalize T.ls[x.toNat] = l at hl
    generalize T.cs[x.toNat] = c at hcx
    obtain ⟨hL, hLtag, hLrows⟩ := h.tr.list _ l hl
    obtain ⟨hci, _⟩ := h.tr.cvec _ c hcx
    obtain ⟨cd, cv⟩ := hT.cvok c (List.mem_of_getElem? hcx)
    obtain ⟨p, hp, hc⟩ := Seg.elem encSL_len (by decide) (h.tr.larr.seg.mono ho.le) hl
    obtain ⟨p', hp', hc'⟩ := Seg.elem encS_len (by decide) (h.tr.carr.mono ho.le) hcx
    have hrl : Rok l.2 c.2.length := by rw [cd]; exact hrok.sub (sub_sum (f := fun l : Sl × List Rw => l.2) (List.mem_of_getElem? hl))
    have hrw : Rws u l.1 l.2 := ⟨hL.seg, fun r hr => (hLrows r hr).1⟩
    refine ⟨p, hp, ⟨x0, hx⟩, l.1, hc 0 _ rfl, _, rfl, T.sc, ho.le.cell c1, p', hp', ⟨x0, by omega⟩, c.1, hc' 0 _ rfl, ?_⟩
    refine spec.vec_Ball (hci.mono ho.le) cv (hrw.mono ho.le) hrl fun s' i' u24 ho24 n25 hn25 => ?_
    obtain ⟨oP, hoP⟩ : ∃ oP, oP = (Obj.cells #[.int .i64 3, .slice s'.a s'.n s'.c, .slice none 0 0, .int .u64 (hiW (radTo c.2 l.2 l.2.length)), .int .u64 (loW (radTo c.2 l.2 l.2.length)), .slice none 0 0, .slice l.1.a l.1.n l.1.c, .slice none 0 0] 110 (0, 0)) := ⟨_, rfl⟩
    show SemT Tryz.prog _ _ (u24.ins n25 (Obj.cells #[.int .i64 3, .slice s'.a s'.n s'.c, .slice none 0 0, .int .u64 (hiW (radTo c.2 l.2 l.2.length)), .int .u64 (loW (radTo c.2 l.2 l.2.length)), .slice none 0 0, .slice l.1.a l.1.n l.1.c, .slice none 0 0] 110 (0, 0))) _
    rw [← hoP]
    have l25 := H.le_ins (u := u24) (b := n25) oP hn25
    have hw25 : w.le (u24.ins n25 oP) := ho24.le.trans l25
    have hkn8 : ∀ g, s8.blk = some g → w g ≠ none := fun g hg => own_known ho hg
    have n25w : w n25 = none := ho24.le.none hn25
    have n258 : s8.blk ≠ some n25 := fun e => hkn8 n25 e n25w
    have s'8 : ∀ g, s'.blk = some g → s8.blk ≠ some g := fun g hg e => hkn8 g e (ho24.fresh g hg)
    -- the parts lie beside the slice
    have hPv : vP.le (H.sans (u24.ins n25 oP) s8) := fun g o hg => by
      have : s8.blk ≠ some g := fun e => by rw [hb8 g e] at hg; cases hg
      rw [sans_at this]
      exact hw25 _ _ (hP _ _ hg)
    have new : PartAt (H.sans (u24.ins n25 oP) s8) n25 (partI c.2 l.2) := by
      have lu : u.le (H.sans (u24.ins n25 oP) s8) := uP.trans hPv
      refine .mk s' ⟨none, 0, 0⟩ ⟨none, 0, 0⟩ l.1 ⟨none, 0, 0⟩ l.2 [] (by rw [sans_at n258, H.ins_same, hoP]; rfl) rfl (Seg.else ho24.ints fun g o hg hgo => by rw [sans_at (s'8 g hg)]; exact l25 _ _ hgo) ?_ (hrw.mono lu) rfl ?_ rfl fun i m k hm => by simp at hm
      · exact ⟨rfl, Nat.le_refl _, by decide, .inl rfl⟩
      · exact ⟨rfl, Nat.le_refl _, by decide, .inl rfl⟩
    refine sem_push' tParts (build_part1 n25) (by decide) rfl (by simp [Value.oneCell']) (ho.mono hw25) (by show s8.n < _; omega) (by show (s8.n + 1) * _ ≤ _; omega) fun s28 u29 ho29 hn29 hel hbl _ => ⟨⟨by omega, by omega⟩, ⟨by omega, by omega, ms ++ [n25], H.sans (u24.ins n25 oP) s8, by simp; omega, by rw [List.map_append]; exact ho29, uP.trans hPv, fun g o hg => hel g o (sans_of hg).1 (sans_of hg).2, fun g hg => ?_, fun i m p hm hp2 => ?_⟩, by dsimp only; omega⟩
    · rcases hbl g hg with h1 | h1
      · show (if s8.blk = some g then none else _) = none
        rw [if_pos h1]
      · by_cases e : s8.blk = some g
        · show (if s8.blk = some g then none else _) = none
          rw [if_pos e]
        · rw [sans_at e]; exact h1
    · rw [List.getElem?_append] at hm
      split at hm
      · exact (hparts i m p hm hp2).mono hPv
      · rename_i hge
        have hi : i = ms.length := by
          have := (List.getElem?_eq_some_iff.1 hm).1
          simp at this
          omega
        subst hi
        simp at hm
        subst hm
        rw [hms, partsI_get T.cs T.ls hcx hl] at hp2
        rw [← Option.some.inj hp2]
        exact new
  · obtain ⟨pl1, pl2⟩ := partsI_len T.cs T.ls hlm.1
    have hall := partsI_all T.cs T.ls hlm.1
    refine spec.flat_Walk (ms := ms) (P := partsI T.cs T.ls) ho.own.seg (by rw [pl1]; omega) (fun i m p h1 h2 => (hparts i m p h1 h2).mono hP) (partsI_ok T.cs T.ls (fun c hc => by rw [hql]; exact hT.cvok c hc) fun l hl => ?_) (ht.mono ho.le) hvq k1 k2 b0 b1 (by omega) (by rw [hall, List.length_map]; omega) (fun y hy => ?_) fun sh ss sr R u' ha hR => ?_
    · rw [hql]
      exact hrok.sub (sub_sum (f := fun l : Sl × List Rw => l.2) hl)
    · rw [hall] at hy
      obtain ⟨r, hr, rfl⟩ := List.mem_map.1 hy
      have := hrok.v r hr
      exact ⟨by rw [hql]; exact this.1, this.2⟩
    · exact hok he sh ss sr R u' (answ ha ho.le) hR

end Go.Proofs.YtljbcihbgeiacaaGreat.Iv

/- VcVcs -/
namespace Go.Proofs.YtljbcihbgeiacaaGreat

theorem tVecs : elemT Tryz.prog 68 = some (41, 1, 24, [.slice none 0 0]) := by kernel_rfl

structure VcsO (u0 u : H) (s : Sl) (cs : List (Sl × List Int)) : Prop where
  own : OwnF u0 u 41 1 s (cs.flatMap fun c => encS c.1)
  inner : ∀ c ∈ cs, OwnF u0 u 3 1 c.1 (c.2.flatMap encI)
  far : ∀ c ∈ cs, Far s c.1
  apart : cs.Pairwise fun a b => Far a.1 b.1

theorem VcsO.vcs {u0 u : H} {s : Sl} {cs : List (Sl × List Int)} (h : VcsO u0 u s cs) : VcsAt u s cs := ⟨h.own.own.seg, fun c hc => (h.inner c hc).ints⟩
theorem VcsO.mono {u0 u u' : H} {s : Sl} {cs : List (Sl × List Int)} (h : VcsO u0 u s cs) (k : u.le u') : VcsO u0 u' s cs := ⟨h.own.mono k, fun c hc => (h.inner c hc).mono k, h.far, h.apart⟩
theorem VcsO.weaken {u0 u1 u : H} {s : Sl} {cs : List (Sl × List Int)} (h : VcsO u1 u s cs) (k : u0.le u1) : VcsO u0 u s cs := ⟨h.own.weaken k, fun c hc => (h.inner c hc).weaken k, h.far, h.apart⟩
theorem VcsO.len {u0 u : H} {s : Sl} {cs : List (Sl × List Int)} (h : VcsO u0 u s cs) : s.n = cs.length := h.vcs.len

/-- Another slice was written. -/
theorem VcsO.else {u0 u u' : H} {s t : Sl} {cs : List (Sl × List Int)} (h : VcsO u0 u s cs) (he : Else u u' t) (ht : ∀ g, t.blk = some g → u0 g = none) (h1 : Far t s) (h2 : ∀ c ∈ cs, Far t c.1) : VcsO u0 u' s cs :=
  ⟨OwnF.else (e := 0) h.own he ht h1, fun c hc => OwnF.else (e := 0) (h.inner c hc) he ht (h2 c hc), h.far, h.apart⟩

/-- Vectors that are nothing yet. -/
theorem VcsO.none {u0 u : H} {s : Sl} {k : Nat} (h : OwnF u0 u 41 1 s ((List.replicate k ((⟨none, 0, 0⟩ : Sl), ([] : List Int))).flatMap fun c => encS c.1)) : VcsO u0 u s (List.replicate k (⟨none, 0, 0⟩, [])) := by
  refine ⟨h, fun c hc => ?_, fun c hc => ?_, ?_⟩
  · rw [(List.mem_replicate.1 hc).2]
    exact OwnF.nil h.le _ _
  · rw [(List.mem_replicate.1 hc).2]
    intro g _ hg
    simp [Sl.blk] at hg
  · rw [List.pairwise_replicate]
    exact .inr fun g hg => by simp [Sl.blk] at hg

theorem pair_set {α : Type} {R : α → α → Prop} {l : List α} (h : l.Pairwise R) (hs : ∀ a b, R a b → R b a) {i : Nat} {y : α} (hy : ∀ j z, j ≠ i → l[j]? = some z → R z y) : (l.set i y).Pairwise R := by
  rw [List.pairwise_iff_getElem]
  intro a b ha hb hab
  rw [List.length_set] at ha hb
  rw [List.getElem_set, List.getElem_set]
  split
  · rename_i e
    split
    · omega
    · rename_i e2
      exact hs _ _ (hy b _ (Ne.symm e2) (List.getElem?_eq_getElem hb))
  · rename_i e
    split
    · exact hy a _ (Ne.symm e) (List.getElem?_eq_getElem ha)
    · exact List.pairwise_iff_getElem.1 h a b ha hb hab

theorem mem_set {α : Type} {l : List α} {i : Nat} {y z : α} (h : z ∈ l.set i y) : z = y ∨ ∃ j, j ≠ i ∧ l[j]? = some z := by
  obtain ⟨j, hj, rfl⟩ := List.getElem_of_mem h
  rw [List.length_set] at hj
  rw [List.getElem_set]
  split
  · exact .inl rfl
  · rename_i e
    exact .inr ⟨j, Ne.symm e, List.getElem?_eq_getElem hj⟩

theorem get_set {α : Type} {l : List α} {i j : Nat} {y z : α} (h : (l.set i y)[j]? = some z) : (j = i ∧ z = y) ∨ (j ≠ i ∧ l[j]? = some z) := by
  by_cases e : j = i
  · subst e
    have hl : j < (l.set j y).length := (List.getElem?_eq_some_iff.1 h).1
    rw [List.length_set] at hl
    rw [List.getElem?_set_self hl] at h
    exact .inl ⟨rfl, (Option.some.inj h).symm⟩
  · rw [List.getElem?_set_ne (Ne.symm e)] at h
    exact .inr ⟨e, h⟩

/-- A number of a vector is written. -/
theorem VcsO.setv {u0 u : H} {s : Sl} {cs : List (Sl × List Int)} (h : VcsO u0 u s cs) {i j : Nat} {c : Sl × List Int} (hi : cs[i]? = some c) (hj : j < c.2.length) {p : Addr} (hp : c.1.a = some p) {x : Int} {f : H → Prop}
    (hf : ∀ u', VcsO u0 u' s (cs.set i (c.1, c.2.set j x)) → Else u u' c.1 → f u') : H.St u (p.add (j * 1)) [.int .i64 x] f := by
  have hc := List.mem_of_getElem? hi
  have hil : i < cs.length := (List.getElem?_eq_some_iff.1 hi).1
  have ei : cs[i] = c := (List.getElem?_eq_some_iff.1 hi).2
  have other : ∀ z k, k ≠ i → cs[k]? = some z → Far c.1 z.1 := fun z k hk hz => by
    have hkl := (List.getElem?_eq_some_iff.1 hz).1
    have ek := (List.getElem?_eq_some_iff.1 hz).2
    rcases Nat.lt_or_gt_of_ne hk with h1 | h1
    · have := List.pairwise_iff_getElem.1 h.apart k i hkl hil h1
      rw [ek, ei] at this
      exact this.symm
    · have := List.pairwise_iff_getElem.1 h.apart i k hil hkl h1
      rw [ek, ei] at this
      exact this
  refine OwnF.store (enc := encI) encI_len (h.inner c hc) (by decide) (i := j) hj (y := x) (by simp [encI, Value.oneCell']) hp fun u' ho he _ => hf u' ⟨?_, fun z hz => ?_, fun z hz => ?_, ?_⟩ he
  · have e : (cs.set i (c.1, c.2.set j x)).flatMap (fun c => encS c.1) = cs.flatMap fun c => encS c.1 := by
      have : (cs.set i (c.1, c.2.set j x)).map (fun c => c.1) = cs.map fun c => c.1 := by
        rw [List.map_set]
        apply List.ext_getElem?
        intro m
        rw [List.getElem?_set]
        split
        · rename_i e
          subst e
          rw [if_pos (by simpa using hil), List.getElem?_map, hi]
          rfl
        · rfl
      have e2 : ∀ l : List (Sl × List Int), l.flatMap (fun c => encS c.1) = (l.map fun c => c.1).flatMap encS := fun l => by rw [List.flatMap_map]
      rw [e2, this, ← e2]
    rw [e]
    exact OwnF.else (e := 0) h.own he (h.inner c hc).fresh (h.far c hc).symm
  · rcases mem_set hz with rfl | ⟨k, hk, hz⟩
    · exact ho
    · exact OwnF.else (e := 0) (h.inner z (List.mem_of_getElem? hz)) he (h.inner c hc).fresh (other z k hk hz)
  · rcases mem_set hz with rfl | ⟨k, hk, hz⟩
    · exact h.far c hc
    · exact h.far z (List.mem_of_getElem? hz)
  · exact pair_set h.apart (fun a b h => h.symm) fun k z hk hz => (other z k hk hz).symm

/-- A new vector comes to a place. -/
theorem VcsO.put {u0 u u1 : H} {s t : Sl} {cs : List (Sl × List Int)} {v : List Int} (h : VcsO u0 u s cs) (ht : OwnF u u1 3 1 t (v.flatMap encI)) {i : Nat} (hi : i < cs.length) {p : Addr} (hp : s.a = some p) {f : H → Prop}
    (hf : ∀ u', VcsO u0 u' s (cs.set i (t, v)) → Else u1 u' s → f u') : H.St u1 (p.add (i * 1)) [.slice t.a t.n t.c] f := by
  have h1 := h.mono ht.le
  have hu0 : u0.le u := h.own.le
  have fart : ∀ {e k : Nat} {x : Sl} {xs : List Value}, OwnF u0 u e k x xs → Far x t := fun hx => OwnF.far hx (H.le.refl u) ht
  refine OwnF.store (enc := fun c : Sl × List Int => encS c.1) encS_len h1.own (by decide) (i := i) hi (y := (t, v)) (by simp [encS, Value.oneCell']) hp fun u' ho he _ => hf u' ⟨ho, fun z hz => ?_, fun z hz => ?_, ?_⟩ he
  · rcases mem_set hz with rfl | ⟨k, hk, hz⟩
    · exact OwnF.else (e := 0) (ht.weaken hu0) he h.own.fresh (fart h.own)
    · exact OwnF.else (e := 0) (h1.inner z (List.mem_of_getElem? hz)) he h.own.fresh (h.far z (List.mem_of_getElem? hz))
  · rcases mem_set hz with rfl | ⟨k, hk, hz⟩
    · exact fart h.own
    · exact h.far z (List.mem_of_getElem? hz)
  · exact pair_set h.apart (fun a b h => h.symm) fun k z hk hz => fart (h.inner z (List.mem_of_getElem? hz))

end Go.Proofs.YtljbcihbgeiacaaGreat

/- VcTrain0 -/
namespace Go.Proofs.YtljbcihbgeiacaaGreat

def nearI (cs : List (List Int)) (v : List Int) : Nat := (nearTo cs v cs.length).1
def mineI (cs vs : List (List Int)) (i : Nat) : List (List Int) := vs.filter fun v => decide (nearI cs v = i)
def sumC (m : List (List Int)) (j : Nat) : Int := (m.map fun v => v.getD j 0).sum
def meanI (m : List (List Int)) (d : Nat) : List Int := (List.range d).map fun j => sumC m j / (m.length : Int)
def roundI (d : Nat) (vs cs : List (List Int)) : List (List Int) := (List.range cs.length).map fun i => if mineI cs vs i = [] then cs.getD i [] else meanI (mineI cs vs i) d

theorem roundI_len (d : Nat) (vs cs : List (List Int)) : (roundI d vs cs).length = cs.length := by simp [roundI]
theorem roundI_get {d : Nat} {vs cs : List (List Int)} {i : Nat} (h : i < cs.length) : (roundI d vs cs)[i]? = some (if mineI cs vs i = [] then cs.getD i [] else meanI (mineI cs vs i) d) := by
  unfold roundI
  rw [List.getElem?_map, List.getElem?_range h]
  rfl

theorem mineI_succ {cs vs : List (List Int)} {x : Nat} {v : List Int} (h : vs[x]? = some v) (i : Nat) : mineI cs (vs.take (x + 1)) i = mineI cs (vs.take x) i ++ (if nearI cs v = i then [v] else []) := by
  unfold mineI
  rw [List.take_add_one, h, Option.toList, List.filter_append]
  by_cases e : nearI cs v = i <;> simp [e]

theorem sumC_append (a b : List (List Int)) (j : Nat) : sumC (a ++ b) j = sumC a j + sumC b j := by
  unfold sumC
  rw [List.map_append, List.sum_append]

theorem sumC_one (v : List Int) (j : Nat) : sumC [v] j = v.getD j 0 := by simp [sumC]
theorem sumC_nil (j : Nat) : sumC [] j = 0 := rfl

theorem coord_bound {v : List Int} (h : vok v) (j : Nat) : -2147483647 ≤ v.getD j 0 ∧ v.getD j 0 ≤ 2147483647 := by
  by_cases hj : j < v.length
  · exact h.2 j hj
  · rw [List.getD_eq_getElem?_getD, List.getElem?_eq_none (by omega)]
    decide

theorem sumC_bound {m : List (List Int)} (h : ∀ v ∈ m, vok v) (j : Nat) : -2147483647 * (m.length : Int) ≤ sumC m j ∧ sumC m j ≤ 2147483647 * (m.length : Int) := by
  induction m with
  | nil => simp [sumC]
  | cons v m ih =>
    have h1 := coord_bound (h v (List.mem_cons_self ..)) j
    have h2 := ih fun w hw => h w (List.mem_cons_of_mem _ hw)
    have e : sumC (v :: m) j = v.getD j 0 + sumC m j := by simp [sumC]
    rw [e, List.length_cons]
    omega

theorem meanI_ok {m : List (List Int)} {d : Nat} (h : ∀ v ∈ m, vok v) (hm : m ≠ []) (hd : d ≤ 64) : vok (meanI m d) ∧ (meanI m d).length = d := by
  have hl : (meanI m d).length = d := by simp [meanI]
  refine ⟨⟨by omega, fun i hi => ?_⟩, hl⟩
  have hp : (0 : Int) < (m.length : Int) := by have := List.length_pos_iff.2 hm; omega
  have e : (meanI m d).getD i 0 = sumC m i / (m.length : Int) := by
    unfold meanI
    rw [List.getD_eq_getElem?_getD, List.getElem?_map, List.getElem?_range (by omega)]
    rfl
  rw [e]
  obtain ⟨h1, h2⟩ := sumC_bound h i
  exact ⟨Int.le_ediv_of_mul_le hp h1, Int.ediv_le_of_le_mul hp h2⟩

theorem mineI_mem {cs vs : List (List Int)} {i : Nat} {v : List Int} (h : v ∈ mineI cs vs i) : v ∈ vs := (List.mem_filter.1 h).1
theorem mineI_le (cs vs : List (List Int)) (i : Nat) : (mineI cs vs i).length ≤ vs.length := List.length_filter_le _ _

theorem roundI_ok {d : Nat} {vs cs : List (List Int)} (hv : ∀ v ∈ vs, vok v) (hd : d ≤ 64) (hc : ∀ c ∈ cs, c.length = d ∧ vok c) : ∀ c ∈ roundI d vs cs, c.length = d ∧ vok c := by
  intro c hcm
  obtain ⟨i, hi, rfl⟩ := List.mem_map.1 hcm
  have hil : i < cs.length := List.mem_range.1 hi
  split
  · have : cs.getD i [] ∈ cs := by rw [List.getD_eq_getElem?_getD, List.getElem?_eq_getElem hil]; exact List.getElem_mem hil
    exact hc _ this
  · rename_i hne
    obtain ⟨h1, h2⟩ := meanI_ok (d := d) (fun v hv' => hv v (mineI_mem hv')) hne hd
    exact ⟨h2, h1⟩

theorem down_eq {a b : Int} (hb : 0 < b) : (Int.tmod a b < 0 → Int.tdiv a b - 1 = a / b) ∧ (¬ Int.tmod a b < 0 → Int.tdiv a b = a / b) := by
  have h1 := Int.mul_tdiv_add_tmod a b
  have h2 := Int.mul_ediv_add_emod a b
  have h3 := Int.emod_nonneg a (show b ≠ 0 by omega)
  have h4 := Int.emod_lt_of_pos a hb
  have h5 : (Int.tmod a b).natAbs < b.natAbs := by rw [Int.natAbs_tmod]; exact Nat.mod_lt _ (by omega)
  have key : ∀ q r q' r' : Int, b * q + r = b * q' + r' → 0 ≤ r → r < b → 0 ≤ r' → r' < b → q = q' := by
    intro q r q' r' he r0 r1 r0' r1'
    have e1 : b * (q - q') = r' - r := by rw [Int.mul_sub]; omega
    by_cases hq : q = q'
    · exact hq
    · rcases Int.lt_or_gt_of_ne hq with h | h
      · have : b * (q - q') ≤ b * (-1) := Int.mul_le_mul_of_nonneg_left (by omega) (by omega)
        omega
      · have : b * 1 ≤ b * (q - q') := Int.mul_le_mul_of_nonneg_left (by omega) (by omega)
        omega
  constructor
  · intro hn
    refine key _ (Int.tmod a b + b) _ (a % b) ?_ (by omega) (by omega) h3 h4
    rw [Int.mul_sub]
    omega
  · intro hn
    exact key _ (Int.tmod a b) _ (a % b) (by omega) (by omega) (by omega) h3 h4

theorem spec.kmeans_down {a b : Int} {u : H} {K : Int → H → Prop} (hb : 0 < b) (h1 : -10000000000000 ≤ a) (h2 : a ≤ 10000000000000) (hK : K (a / b) u) : C.kmeans_down a b u K := by
  obtain ⟨d1, d2⟩ := down_eq (a := a) hb
  have hq1 : -10000000000000 ≤ a / b := Int.le_ediv_of_mul_le hb (by
    have : -10000000000000 * b ≤ -10000000000000 * 1 := Int.mul_le_mul_of_nonpos_left (by omega) (by omega)
    omega)
  have hq2 : a / b ≤ 10000000000000 := Int.ediv_le_of_le_mul hb (by
    have : 10000000000000 * 1 ≤ 10000000000000 * b := Int.mul_le_mul_of_nonneg_left (by omega) (by omega)
    omega)
  apply vc.kmeans_down
  refine ⟨by omega, ?_, by omega, fun hn => ?_, fun hn => ?_⟩
  · by_cases hn : Int.tmod a b < 0
    · have := d1 hn; exact ⟨by omega, by omega⟩
    · have := d2 hn; exact ⟨by omega, by omega⟩
  · rw [d1 hn]
    exact ⟨⟨by omega, by omega⟩, hK⟩
  · rw [d2 hn]
    exact hK

theorem sem_make_ints {u : H} {n : Int} (h0 : 0 ≤ n) (hn : n ≤ 1000000) {K : Sl → H → Prop} (hK : ∀ s u', OwnF u u' 3 1 s ((List.replicate n.toNat (0 : Int)).flatMap encI) → (s.n : Int) = n → K s u') :
    SemT Tryz.prog (Instr.makeSlice 41 (.int .i64 n) (.int .i64 n)) [.one .slice] u K := by
  refine sem_make tInts h0 (Int.le_refl _) (by omega) (by omega) fun g hg => ?_
  have hmade : (madeCells [Value.int .i64 0].toArray (n.toNat * 1)).toList = (List.replicate n.toNat (0 : Int)).flatMap encI := made_flat (enc := encI) encI_len (by decide) 0 n.toNat
  have hsz : (madeCells [Value.int .i64 0].toArray (n.toNat * 1)).size = n.toNat * 1 := by
    have := congrArg List.length hmade
    rw [Array.length_toList, flat_len encI_len] at this
    simpa using this
  have ho := OwnF.make (k := 1) (H.le.refl u) hg (cells := madeCells [Value.int .i64 0].toArray (n.toNat * 1)) (e := 3) (n := n.toNat) (by omega) hsz
  rw [hmade] at ho
  exact hK _ _ ho (by show ((n.toNat : Nat) : Int) = n; omega)

theorem sem_make_vecs {u : H} {n : Int} (h0 : 0 ≤ n) (hn : n ≤ 1000000) {K : Sl → H → Prop} (hK : ∀ s u', VcsO u u' s (List.replicate n.toNat (⟨none, 0, 0⟩, [])) → (s.n : Int) = n → K s u') :
    SemT Tryz.prog (Instr.makeSlice 68 (.int .i64 n) (.int .i64 n)) [.one .slice] u K := by
  refine sem_make tVecs h0 (Int.le_refl _) (by omega) (by omega) fun g hg => ?_
  have hmade : (madeCells [Value.slice none 0 0].toArray (n.toNat * 1)).toList = (List.replicate n.toNat ((⟨none, 0, 0⟩ : Sl), ([] : List Int))).flatMap fun c => encS c.1 := made_flat (enc := fun c : Sl × List Int => encS c.1) encS_len (by decide) (⟨none, 0, 0⟩, []) n.toNat
  have hsz : (madeCells [Value.slice none 0 0].toArray (n.toNat * 1)).size = n.toNat * 1 := by
    have := congrArg List.length hmade
    rw [Array.length_toList, flat_len encS_len] at this
    simpa using this
  have ho := OwnF.make (k := 1) (H.le.refl u) hg (cells := madeCells [Value.slice none 0 0].toArray (n.toNat * 1)) (e := 41) (n := n.toNat) (by omega) hsz
  rw [hmade] at ho
  exact hK _ _ (VcsO.none ho) (by show ((n.toNat : Nat) : Int) = n; omega)

end Go.Proofs.YtljbcihbgeiacaaGreat

/- VcTrain1 -/
namespace Go.Proofs.YtljbcihbgeiacaaGreat

theorem ext_getD {a b : List Int} (hl : a.length = b.length) (h : ∀ j, j < a.length → a.getD j 0 = b.getD j 0) : a = b := by
  apply List.ext_getElem hl
  intro j h1 h2
  have := h j h1
  rw [List.getD_eq_getElem?_getD, List.getD_eq_getElem?_getD, List.getElem?_eq_getElem h1, List.getElem?_eq_getElem h2] at this
  exact this

theorem getD_set (l : List Int) (i j : Nat) (x : Int) (hi : i < l.length) : (l.set i x).getD j 0 = if j = i then x else l.getD j 0 := by
  rw [List.getD_eq_getElem?_getD, List.getElem?_set]
  by_cases e : i = j
  · subst e; rw [if_pos rfl, if_pos hi, if_pos rfl]; rfl
  · rw [if_neg e, if_neg (Ne.symm e), List.getD_eq_getElem?_getD]

/-- What a round is asked in. -/
structure RoundIn (ub : H) (a0 a1 a2 a3 : Nat) (k d : Nat) (sl sc : Sl) (L : List (Sl × List Int)) : Prop where
  c0 : ub.cell? ⟨a0, 0, none⟩ = some (.int .i64 k)
  c1 : ub.cell? ⟨a1, 0, none⟩ = some (.int .i64 d)
  c2 : ub.cell? ⟨a2, 0, none⟩ = some (.slice sl.a sl.n sl.c)
  c3 : ub.cell? ⟨a3, 0, none⟩ = some (.slice sc.a sc.n sc.c)
  vs : VcsAt ub sl L
  ok : ∀ c ∈ L, c.2.length = d ∧ vok c.2
  few : L.length ≤ 512
  dim : 1 ≤ d ∧ d ≤ 64
  many : 1 ≤ k ∧ k ≤ 64

theorem spec.kmeans_round {ub u : H} {a0 a1 a2 a3 k d : Nat} {sl sc : Sl} {L Cn : List (Sl × List Int)} {K : H → Prop} (hI : RoundIn ub a0 a1 a2 a3 k d sl sc L) (hC : VcsO ub u sc Cn) (hCl : Cn.length = k) (hCok : ∀ c ∈ Cn, c.2.length = d ∧ vok c.2)
    (hK : ∀ u' C', VcsO ub u' sc C' → C'.map (·.2) = roundI d (L.map (·.2)) (Cn.map (·.2)) → K u') : C.kmeans_Train_1 ⟨a0, 0, none⟩ ⟨a1, 0, none⟩ ⟨a2, 0, none⟩ ⟨a3, 0, none⟩ u K := by
  obtain ⟨d1, d2⟩ := hI.dim
  obtain ⟨k1, k2⟩ := hI.many
  have hfew := hI.few
  have hub : ub.le u := hC.own.le
  obtain ⟨cs, hcs⟩ : ∃ cs, cs = Cn.map (·.2) := ⟨_, rfl⟩
  obtain ⟨vs, hvs⟩ : ∃ vs, vs = L.map (·.2) := ⟨_, rfl⟩
  have hcsl : cs.length = k := by rw [hcs, List.length_map, hCl]
  have hvsl : vs.length = L.length := by rw [hvs, List.length_map]
  have hvok : ∀ v ∈ vs, vok v := fun v hv => by rw [hvs] at hv; obtain ⟨c, hc, rfl⟩ := List.mem_map.1 hv; exact (hI.ok c hc).2
  have hCsok : CsOk Cn (d : Int) := ⟨by omega, by omega, fun c hc => ⟨by have := (hCok c hc).1; omega, (hCok c hc).2⟩⟩
  apply vc.kmeans_Train_1
  refine ⟨k, hub.cell hI.c0, sem_make_vecs (by omega) (by omega) fun s1 u2 hS0 hs1n => ⟨k, (hub.trans hS0.own.le).cell hI.c0, sem_make_ints (by omega) (by omega) fun s4 u5 hM0 hs4n => ⟨k, ((hub.trans hS0.own.le).trans hM0.le).cell hI.c0, ?_⟩⟩⟩
  have hS5 := hS0.mono hM0.le
  have far14 : ∀ {e k : Nat} {x : Sl} {xs : List Value}, OwnF u u2 e k x xs → Far x s4 := fun hx => OwnF.far hx (H.le.refl u2) hM0
  -- the sums' vectors are made
  refine ⟨fun x w => 0 ≤ x ∧ x ≤ k ∧ ∃ S, VcsO u w s1 S ∧ S.length = k ∧ (∀ (a : Nat) c, S[a]? = some c → ((a : Int) < x → c.2 = List.replicate d 0)) ∧ OwnF u w 3 1 s4 ((List.replicate k (0 : Int)).flatMap encI) ∧ Far s1 s4 ∧ ∀ c ∈ S, Far c.1 s4, fun x _ => ((k : Int) - x).toNat,
    ⟨by omega, by omega, _, hS5, by simp, fun a c _ h => by omega, by simpa using hM0.weaken hS0.own.le, far14 hS0.own, fun c hc g hg => by rw [(List.mem_replicate.1 hc).2] at hg; simp [Sl.blk] at hg⟩, ?_⟩
  rintro x w ⟨x0, x1, S, hS, hSl, hSv, hM, hf14, hfS⟩
  refine ⟨fun hx => ⟨d, (hub.trans hS.own.le).cell hI.c1, ?_⟩, fun hx => ?_⟩
  · refine sem_make_ints (by omega) (by omega) fun s12 u13 ho hn12 => ?_
    have hxl : x.toNat < S.length := by omega
    obtain ⟨p, hp, _⟩ := hS.vcs.at x0 (by rw [hS.len]; omega)
    refine ⟨p, hp, ⟨x0, by omega⟩, ?_⟩
    rw [show ((d : Nat) : Int).toNat = d from rfl] at ho
    refine VcsO.put hS ho hxl hp fun u' hS' he => ⟨⟨by omega, by omega⟩, ⟨by omega, by omega, _, hS', by rw [List.length_set]; exact hSl, fun a c hac hax => ?_, ?_, hf14, fun c hc => ?_⟩, by dsimp only; omega⟩
    · rcases get_set hac with ⟨_, rfl⟩ | ⟨e, hac⟩
      · rfl
      · exact hSv a c hac (by omega)
    · exact OwnF.else (e := 0) (hM.mono ho.le) he hS.own.fresh hf14
    · rcases mem_set hc with rfl | ⟨j, _, hj⟩
      · exact (OwnF.far hM (H.le.refl w) ho).symm
      · exact hfS c (List.mem_of_getElem? hj)
  have hxk : x.toNat = k := by omega
  have hSv' : ∀ (a : Nat) c, S[a]? = some c → c.2 = List.replicate d 0 := fun a c hac => hSv a c hac (by have := (List.getElem?_eq_some_iff.1 hac).1; omega)
  clear hSv x0 x1 hx hxk x hS5 hM0 hs1n hs4n
  refine ⟨sl, (hub.trans hS.own.le).cell hI.c2, ?_⟩
  have hsln := hI.vs.len
  -- every vector is added to its nearest centre's sum
  refine ⟨fun x w => 0 ≤ x ∧ x ≤ L.length ∧ ∃ (S : List (Sl × List Int)) (M : List Int), VcsO u w s1 S ∧ S.length = k ∧ (∀ (a : Nat) c, S[a]? = some c → c.2.length = d ∧ ∀ j, j < d → c.2.getD j 0 = sumC (mineI cs (vs.take x.toNat) a) j) ∧ OwnF u w 3 1 s4 (M.flatMap encI) ∧ M.length = k ∧ (∀ a, a < k → M.getD a 0 = ((mineI cs (vs.take x.toNat) a).length : Nat)) ∧ Far s1 s4 ∧ ∀ c ∈ S, Far c.1 s4,
    fun x _ => ((L.length : Int) - x).toNat, ⟨by omega, by omega, S, _, hS, hSl, fun a c hac => ?_, hM, by simp, fun a ha => ?_, hf14, hfS⟩, ?_⟩
  · rw [hSv' a c hac]
    refine ⟨by simp, fun j hj => ?_⟩
    have : mineI cs (vs.take (0 : Int).toNat) a = [] := rfl
    rw [this, sumC_nil, List.getD_eq_getElem?_getD, List.getElem?_replicate, if_pos hj]
    rfl
  · have : mineI cs (vs.take (0 : Int).toNat) a = [] := rfl
    rw [this, List.getD_eq_getElem?_getD, List.getElem?_replicate, if_pos ha]
    rfl
  clear hS hM hf14 hfS hSl hSv' S w
  rintro x w ⟨x0, x1, S, M, hS, hSl, hSv, hM, hMl, hMv, hf14, hfS⟩
  have huw : ub.le w := hub.trans hS.own.le
  have hM4 : s4.n = M.length := hM.ints.len
  refine ⟨fun hx => ?_, fun hx => ?_⟩
  · obtain ⟨p, hp, v, hv, hvm, cv, hvi⟩ := (hI.vs.mono huw).at (x := x) x0 hx
    obtain ⟨vd, vo⟩ := hI.ok v hvm
    have hvx : vs[x.toNat]? = some v.2 := by rw [hvs, List.getElem?_map, hv]; rfl
    refine ⟨p, hp, ⟨x0, hx⟩, v.1, cv, sc, huw.cell hI.c3, ?_⟩
    refine spec.kmeans_near (hC.vcs.mono hS.own.le) hCsok hvi vo (by omega) ?_
    have hnear : (nearTo (Cn.map (·.2)) v.2 Cn.length).1 = nearI cs v.2 := by unfold nearI; rw [hcs, List.length_map]
    rw [hnear]
    obtain ⟨at', hat⟩ : ∃ at', at' = nearI cs v.2 := ⟨_, rfl⟩
    have hatk : at' < k := by rw [hat, ← hcsl]; exact nearTo_lt _ _ _ (by omega)
    rw [← hat]
    obtain ⟨p4, hp4, hc4⟩ := hM.ints.at (x := (at' : Int)) (by omega) (by omega)
    have hmv := hMv at' hatk
    have hml := mineI_le cs (vs.take x.toNat) at'
    rw [List.length_take] at hml
    rw [Int.toNat_natCast] at hc4
    refine ⟨p4, hp4, ⟨by omega, by omega⟩, _, by rw [Int.toNat_natCast]; exact hc4, ⟨by omega, by omega⟩, p4, hp4, ⟨by omega, by omega⟩, ?_⟩
    rw [Int.toNat_natCast]
    refine OwnF.store (enc := encI) encI_len hM (by decide) (i := at') (by omega) (y := M.getD at' 0 + 1) (by simp [encI, Value.oneCell']) hp4 fun u31 hM31 he31 _ => ⟨d, ?_, ?_⟩
    · exact hM31.le |> fun h => (hub.trans h).cell hI.c1
    have hS31 : VcsO u u31 s1 S := hS.else he31 hM.fresh hf14.symm fun c hc => (hfS c hc).symm
    have hMv31 : ∀ a, a < k → (M.set at' (M.getD at' 0 + 1)).getD a 0 = ((mineI cs (vs.take (x + 1).toNat) a).length : Nat) := fun a ha => by
      rw [getD_set _ _ _ _ (by omega), show (x + 1).toNat = x.toNat + 1 by omega, mineI_succ hvx, List.length_append, ← hat]
      by_cases e : a = at'
      · subst e
        rw [if_pos rfl, if_pos rfl, hmv]
        simp
      · rw [if_neg e, if_neg (Ne.symm e), hMv a ha]
        simp
    refine ⟨fun n w => 0 ≤ n ∧ n ≤ d ∧ ∃ S, VcsO u w s1 S ∧ S.length = k ∧ (∀ (a : Nat) c, S[a]? = some c → c.2.length = d ∧ ∀ j, j < d → c.2.getD j 0 = sumC (mineI cs (vs.take x.toNat) a) j + (if a = at' ∧ (j : Int) < n then v.2.getD j 0 else 0)) ∧ OwnF u w 3 1 s4 ((M.set at' (M.getD at' 0 + 1)).flatMap encI) ∧ ∀ c ∈ S, Far c.1 s4, fun n _ => ((d : Int) - n).toNat,
      ⟨by omega, by omega, S, hS31, hSl, fun a c hac => ⟨(hSv a c hac).1, fun j hj => by rw [if_neg (by omega), (hSv a c hac).2 j hj]; omega⟩, hM31, hfS⟩, ?_⟩
    rintro n w2 ⟨n0, n1, S2, hS2, hS2l, hS2v, hM2, hfS2⟩
    refine ⟨fun hn => ?_, fun hn => ?_⟩
    · obtain ⟨p1, hp1, c, hc, hcm, cc, hci⟩ := hS2.vcs.at (x := (at' : Int)) (by omega) (by rw [hS2.len]; omega)
      rw [Int.toNat_natCast] at hc
      obtain ⟨cl, cval⟩ := hS2v at' c hc
      have hcn := hci.len
      have hvn := hvi.len
      obtain ⟨p2, hp2, hx41⟩ := hci.at (x := n) n0 (by omega)
      obtain ⟨p3, hp3, hx42⟩ := ((hI.vs.ints v hvm).mono (hub.trans hS2.own.le)).at (x := n) n0 (by omega)
      have hnl : n.toNat < d := by omega
      have hcv := cval n.toNat hnl
      rw [if_neg (by omega)] at hcv
      have hb1 := sumC_bound (m := mineI cs (vs.take x.toNat) at') (fun z hz => hvok z (List.mem_of_mem_take (mineI_mem hz))) n.toNat
      have hb2 := coord_bound vo n.toNat
      refine ⟨p1, hp1, ⟨by omega, by rw [hS2.len]; omega⟩, p3, hp3, ⟨n0, by omega⟩, c.1, cc, p2, hp2, ⟨n0, by omega⟩, _, hx41, _, hx42, ⟨by omega, by omega⟩, p2, hp2, ⟨n0, by omega⟩, ?_⟩
      refine hS2.setv hc (j := n.toNat) (by omega) hp2 fun u44 hS44 he44 => ⟨⟨by omega, by omega⟩, ⟨by omega, by omega, _, hS44, by rw [List.length_set]; exact hS2l, fun a z haz => ?_, OwnF.else (e := 0) hM2 he44 (hS2.inner c hcm).fresh (hfS2 c hcm), fun z hz => ?_⟩, by dsimp only; omega⟩
      · rcases get_set haz with ⟨rfl, rfl⟩ | ⟨e, haz⟩
        · refine ⟨by rw [List.length_set]; exact cl, fun j hj => ?_⟩
          rw [getD_set _ _ _ _ (by omega)]
          by_cases e : j = n.toNat
          · subst e
            rw [if_pos rfl, if_pos ⟨rfl, by omega⟩, hcv]
            omega
          · rw [if_neg e, cval j hj]
            by_cases e2 : (j : Int) < n
            · rw [if_pos ⟨rfl, e2⟩, if_pos ⟨rfl, by omega⟩]
            · rw [if_neg (by omega), if_neg (by omega)]
        · obtain ⟨z1, z2⟩ := hS2v a z haz
          refine ⟨z1, fun j hj => ?_⟩
          rw [z2 j hj, if_neg (fun h => e h.1), if_neg (fun h => e h.1)]
      · rcases mem_set hz with rfl | ⟨j, _, hj⟩
        · exact hfS2 c hcm
        · exact hfS2 z (List.mem_of_getElem? hj)
    · refine ⟨⟨by omega, by omega⟩, ⟨by omega, by omega, S2, _, hS2, hS2l, fun a z haz => ?_, hM2, by rw [List.length_set]; exact hMl, hMv31, hf14, hfS2⟩, by dsimp only; omega⟩
      obtain ⟨z1, z2⟩ := hS2v a z haz
      refine ⟨z1, fun j hj => ?_⟩
      rw [z2 j hj, show (x + 1).toNat = x.toNat + 1 by omega, mineI_succ hvx, sumC_append, ← hat]
      by_cases e : a = at'
      · subst e
        rw [if_pos ⟨rfl, by omega⟩, if_pos rfl, sumC_one]
      · rw [if_neg (fun h => e h.1), if_neg (Ne.symm e), sumC_nil]
  -- the means
  have hall : vs.take x.toNat = vs := List.take_of_length_le (by omega)
  rw [hall] at hSv hMv
  clear hx x0 x1 hall x
  have hCw := hC.mono hS.own.le
  have hS' := hS.weaken hub
  have hM' := hM.weaken hub
  have farC : ∀ c ∈ Cn, Far c.1 s1 ∧ Far c.1 s4 ∧ ∀ z ∈ S, Far c.1 z.1 := fun c hc => by
    have hx := hC.inner c hc
    exact ⟨OwnF.far hx (H.le.refl u) hS.own, OwnF.far hx (H.le.refl u) hM, fun z hz => OwnF.far hx (H.le.refl u) (hS.inner z hz)⟩
  refine ⟨k, huw.cell hI.c0, ?_⟩
  -- coordinate j of centre a, where the first ones are done
  let val : Nat → Nat → Int := fun a j => if mineI cs vs a = [] then (cs.getD a []).getD j 0 else sumC (mineI cs vs a) j / ((mineI cs vs a).length : Int)
  have getC : ∀ {a : Nat} {c : Sl × List Int}, Cn[a]? = some c → cs.getD a [] = c.2 := fun {a c} hac => by
    subst hcs
    rw [List.getD_eq_getElem?_getD, List.getElem?_map, hac]; rfl
  refine ⟨fun i w => 0 ≤ i ∧ i ≤ k ∧ ∃ D, VcsO ub w sc D ∧ D.map (·.1) = Cn.map (·.1) ∧ (∀ (a : Nat) c, D[a]? = some c → c.2.length = d ∧ ∀ j, j < d → c.2.getD j 0 = if (a : Int) < i then val a j else (cs.getD a []).getD j 0) ∧ VcsO ub w s1 S ∧ OwnF ub w 3 1 s4 (M.flatMap encI), fun i _ => ((k : Int) - i).toNat,
    ⟨by omega, by omega, Cn, hCw, rfl, fun a c hac => ⟨(hCok c (List.mem_of_getElem? hac)).1, fun j hj => by
      rw [if_neg (by omega), getC hac]⟩, hS', hM'⟩, ?_⟩
  rintro i w3 ⟨i0, i1, D, hD, hDs, hDv, hS3, hM3⟩
  have hDl : D.length = k := by have := congrArg List.length hDs; simpa [hCl] using this
  have farD : ∀ {D : List (Sl × List Int)}, D.map (·.1) = Cn.map (·.1) → ∀ c ∈ D, Far c.1 s1 ∧ Far c.1 s4 ∧ ∀ z ∈ S, Far c.1 z.1 := fun {D} hDs c hc => by
    have : c.1 ∈ Cn.map (·.1) := by rw [← hDs]; exact List.mem_map_of_mem hc
    obtain ⟨c', hc', e⟩ := List.mem_map.1 this
    have e' : c'.1 = c.1 := e
    rw [← e']
    exact farC c' hc'
  refine ⟨fun hi => ⟨d, (hD.own.le).cell hI.c1, ?_⟩, fun hi => ?_⟩
  · have hik : i.toNat < k := by omega
    refine ⟨fun n w => 0 ≤ n ∧ n ≤ d ∧ ∃ D, VcsO ub w sc D ∧ D.map (·.1) = Cn.map (·.1) ∧ (∀ (a : Nat) c, D[a]? = some c → c.2.length = d ∧ ∀ j, j < d → c.2.getD j 0 = if (a : Int) < i ∨ (a : Int) = i ∧ (j : Int) < n then val a j else (cs.getD a []).getD j 0) ∧ VcsO ub w s1 S ∧ OwnF ub w 3 1 s4 (M.flatMap encI), fun n _ => ((d : Int) - n).toNat,
      ⟨by omega, by omega, D, hD, hDs, fun a c hac => ⟨(hDv a c hac).1, fun j hj => by
        rw [(hDv a c hac).2 j hj]
        by_cases e : (a : Int) < i
        · rw [if_pos e, if_pos (.inl e)]
        · rw [if_neg e, if_neg (by omega)]⟩, hS3, hM3⟩, ?_⟩
    rintro n w4 ⟨n0, n1, E, hE, hEs, hEv, hS4, hM4'⟩
    have hEl : E.length = k := by have := congrArg List.length hEs; simpa [hCl] using this
    refine ⟨fun hn => ?_, fun hn => ⟨⟨by omega, by omega⟩, ⟨by omega, by omega, E, hE, hEs, fun a c hac => ⟨(hEv a c hac).1, fun j hj => by
        rw [(hEv a c hac).2 j hj]
        by_cases e : (a : Int) < i
        · rw [if_pos (.inl e), if_pos (by omega)]
        · by_cases e2 : (a : Int) = i
          · rw [if_pos (.inr ⟨e2, by omega⟩), if_pos (by omega)]
          · rw [if_neg (by omega), if_neg (by omega)]⟩, hS4, hM4'⟩, by dsimp only; omega⟩⟩
    obtain ⟨p4, hp4, hc4⟩ := hM4'.ints.at (x := i) i0 (by omega)
    have hmv := hMv i.toNat hik
    have hml := mineI_le cs vs i.toNat
    rw [hmv] at hc4
    have next : ∀ {w5 : H} {F : List (Sl × List Int)}, VcsO ub w5 sc F → F.map (·.1) = Cn.map (·.1) → (∀ (a : Nat) c, F[a]? = some c → c.2.length = d ∧ ∀ j, j < d → c.2.getD j 0 = if (a : Int) < i ∨ (a : Int) = i ∧ (j : Int) < n + 1 then val a j else (cs.getD a []).getD j 0) → VcsO ub w5 s1 S → OwnF ub w5 3 1 s4 (M.flatMap encI) →
        (InR (n + 1)) ∧ ((0 ≤ n + 1 ∧ n + 1 ≤ d ∧ ∃ D, VcsO ub w5 sc D ∧ D.map (·.1) = Cn.map (·.1) ∧ (∀ (a : Nat) c, D[a]? = some c → c.2.length = d ∧ ∀ j, j < d → c.2.getD j 0 = if (a : Int) < i ∨ (a : Int) = i ∧ (j : Int) < n + 1 then val a j else (cs.getD a []).getD j 0) ∧ VcsO ub w5 s1 S ∧ OwnF ub w5 3 1 s4 (M.flatMap encI)) ∧ ((d : Int) - (n + 1)).toNat < ((d : Int) - n).toNat) := fun h1 h2 h3 h4 h5 => ⟨⟨by omega, by omega⟩, ⟨by omega, by omega, _, h1, h2, h3, h4, h5⟩, by omega⟩
    refine ⟨p4, hp4, ⟨i0, by omega⟩, _, hc4, fun hpos => ?_, fun hnp => ?_⟩
    · obtain ⟨p1, hp1, z, hz, hzm, cz, hzi⟩ := hS4.vcs.at (x := i) i0 (by rw [hS4.len]; omega)
      obtain ⟨pc, hpc, c, hc, hcm, cc, hci⟩ := hE.vcs.at (x := i) i0 (by rw [hE.len]; omega)
      obtain ⟨zl, zv⟩ := hSv i.toNat z hz
      obtain ⟨cl, cv⟩ := hEv i.toNat c hc
      have hnl : n.toNat < d := by omega
      have hzn := hzi.len
      have hcn := hci.len
      obtain ⟨pz, hpz, hz64⟩ := hzi.at (x := n) n0 (by omega)
      obtain ⟨pcc, hpcc, _⟩ := hci.at (x := n) n0 (by omega)
      rw [zv n.toNat hnl] at hz64
      have hb1 := sumC_bound (m := mineI cs vs i.toNat) (fun z hz => hvok z (mineI_mem hz)) n.toNat
      refine ⟨p1, hp1, ⟨i0, by rw [hS4.len]; omega⟩, p4, hp4, ⟨i0, by omega⟩, sc, hE.own.le.cell hI.c3, pc, hpc, ⟨i0, by rw [hE.len]; omega⟩, c.1, cc, z.1, cz, pz, hpz, ⟨n0, by omega⟩, _, hz64, _, hc4, ?_⟩
      refine spec.kmeans_down hpos (by omega) (by omega) ⟨H.le.refl _, pcc, hpcc, ⟨n0, by omega⟩, ?_⟩
      obtain ⟨f1, f2, f3⟩ := farD hEs c hcm
      refine hE.setv hc (j := n.toNat) (by omega) hpcc fun u69 hE69 he69 => next hE69 ?_ (fun a y hay => ?_) (hS4.else he69 (hE.inner c hcm).fresh f1 f3) (OwnF.else (e := 0) hM4' he69 (hE.inner c hcm).fresh f2)
      · rw [← hEs, List.map_set]
        apply List.ext_getElem?
        intro m
        rw [List.getElem?_set]
        split
        · rename_i e
          subst e
          rw [if_pos (by rw [List.length_map]; omega), List.getElem?_map, hc]
          rfl
        · rfl
      · have hne : mineI cs vs i.toNat ≠ [] := fun h0 => by rw [h0] at hpos; simp at hpos
        rcases get_set hay with ⟨rfl, rfl⟩ | ⟨e, hay⟩
        · refine ⟨by rw [List.length_set]; exact cl, fun j hj => ?_⟩
          rw [getD_set _ _ _ _ (by omega)]
          by_cases e : j = n.toNat
          · subst e
            rw [if_pos rfl, if_pos (.inr ⟨by omega, by omega⟩)]
            show _ = if mineI cs vs i.toNat = [] then _ else _
            rw [if_neg hne]
          · rw [if_neg e, cv j hj]
            by_cases e2 : (j : Int) < n
            · rw [if_pos (.inr ⟨by omega, e2⟩), if_pos (.inr ⟨by omega, by omega⟩)]
            · rw [if_neg (by omega), if_neg (by omega)]
        · obtain ⟨y1, y2⟩ := hEv a y hay
          refine ⟨y1, fun j hj => ?_⟩
          rw [y2 j hj]
          by_cases e2 : (a : Int) < i
          · rw [if_pos (.inl e2), if_pos (.inl e2)]
          · rw [if_neg (by omega), if_neg (by omega)]
    · refine next hE hEs (fun a c hac => ⟨(hEv a c hac).1, fun j hj => ?_⟩) hS4 hM4'
      have hnil : mineI cs vs i.toNat = [] := List.eq_nil_of_length_eq_zero (by omega)
      rw [(hEv a c hac).2 j hj]
      by_cases e : (a : Int) < i
      · rw [if_pos (.inl e), if_pos (.inl e)]
      · by_cases e2 : (a : Int) = i
        · have ea : a = i.toNat := by omega
          have hv : val a j = (cs.getD a []).getD j 0 := by
            show (if mineI cs vs a = [] then _ else _) = _
            rw [if_pos (by rw [ea]; exact hnil)]
          by_cases e3 : (j : Int) < n + 1
          · by_cases e4 : (j : Int) < n
            · rw [if_pos (.inr ⟨e2, e4⟩), if_pos (.inr ⟨e2, e3⟩)]
            · rw [if_neg (by omega), if_pos (.inr ⟨e2, e3⟩), hv]
          · rw [if_neg (by omega), if_neg (by omega)]
        · rw [if_neg (by omega), if_neg (by omega)]
  · refine hK w3 D hD ?_
    rw [← hcs, ← hvs]
    apply List.ext_getElem?
    intro a
    by_cases ha : a < k
    · have hDa : D[a]? = some D[a] := List.getElem?_eq_getElem (by omega)
      obtain ⟨l1, l2⟩ := hDv a _ hDa
      have hCa : Cn[a]? = some Cn[a] := List.getElem?_eq_getElem (by omega)
      have hcl := (hCok _ (List.mem_of_getElem? hCa)).1
      rw [List.getElem?_map, hDa, roundI_get (by omega)]
      show some D[a].2 = _
      congr 1
      have ecs : cs.getD a [] = Cn[a].2 := getC hCa
      refine ext_getD ?_ fun j hj => ?_
      · rw [l1]
        split
        · rw [ecs, hcl]
        · simp [meanI]
      · have hjd : j < d := by omega
        rw [l2 j hjd, if_pos (by omega)]
        show (if mineI cs vs a = [] then _ else _) = _
        split
        · rfl
        · unfold meanI
          rw [List.getD_eq_getElem?_getD, List.getElem?_map, List.getElem?_range hjd]
          rfl
    · rw [List.getElem?_eq_none (by rw [List.length_map]; omega), List.getElem?_eq_none (by rw [roundI_len]; omega)]

end Go.Proofs.YtljbcihbgeiacaaGreat

/- VcRangeG -/
namespace Go.Proofs.YtljbcihbgeiacaaGreat
open Go.RowKit

end Go.Proofs.YtljbcihbgeiacaaGreat

/- VcRangeM -/
namespace Go.Proofs.YtljbcihbgeiacaaGreat
open Go.RowKit

/-- An iterator's contract: before each round it turns its own block. -/
def IterM {α σ : Type} (P : Program) (fv : Value) (enc enc2 : α → Value) (src : Nat) (cell : σ → Obj) (Nx : σ → α → σ → Prop) (s0 : σ) (En : σ → Prop) (u : H) : Prop :=
  ∀ (yv : Value) (J : σ → H → Prop), (∀ s v, J s v → u.le v ∧ v src = some (cell s)) →
    (∀ s y s' v (K : Bool → H → Prop), Nx s y s' → J s v → (∀ v', J s' v' → K true v') → ClR P yv #[enc y, enc2 y] [.one .bool] (v.ins src (cell s')) K) →
    ∀ v (K : H → Prop), J s0 v → (∀ s v', En s → J s v' → K v') → ClV P fv #[yv] [] v K

/-- A body's promise, in a round: x, x2: the loop's variables. -/
def RoundOk2 (P : Program) (n : Nat) (assign body : Code) (env : List (Nat × Value)) (x x2 : Nat) (y y2 : Value) (v : H) (J : H → Prop) : Prop :=
  ∀ l a w, a.tmps.size = n → (∀ p ∈ env, p.1 ≠ x → p.1 ≠ x2 → a.tmps[p.1]? = some p.2) → a.tmps[x]? = some y → a.tmps[x2]? = some y2 → a.defers = [] → Sub v w →
    assign.wpIn (Fr (some l)) 0 P (Exit.then (fun a1 w1 => ∃ v1, Step v [] w v1 [] w1 ∧ ∀ w2, Sub v1 w2 →
      body.wpIn (Fr (some l)) 0 P (fun e _ w3 => e = .normal ∧ ∃ v2, J v2 ∧ Step v1 [] w2 v2 [] w3) a1 w2) (fun _ _ _ => False)) a w

theorem RoundOk2.of {C : Cfg} (hG : Good C) {n : Nat} {assign body : Code} {env : List (Nat × Value)} {x x2 : Nat} {y y2 : Value} {v : H} {J : H → Prop} (ha : plainC assign = true) (hb : plainC body = true)
    (env' : List (Nat × SV)) (henv : ∀ p ∈ env', ∃ z, conc [] p.2 = some z ∧ ((p.1 = x ∧ z = y) ∨ (p.1 = x2 ∧ z = y2) ∨ p.1 ≠ x ∧ p.1 ≠ x2 ∧ (p.1, z) ∈ env))
    (h : WPc C [] assign 1 (fun _ => true) (fun e s u => e = .normal ∧ s.loc = [] ∧ WPc C [] body 1 (fun _ => true) (fun e _ u => e = .normal ∧ J u) s u) { n := n, env := env', loc := [] } v) :
    RoundOk2 C.P n assign body env x x2 y y2 v J := by
  intro l a w hsz he hx hxx hd hs
  have hf : Fits { n := n, env := env', loc := [] } [] v a w := by
    refine ⟨⟨hd, hsz, fun p hp => ?_⟩, rfl, fun i cs e => by simp at e, by simp, by simp, hs⟩
    obtain ⟨z, h1, h2⟩ := henv p hp
    refine ⟨z, h1, ?_⟩
    rcases h2 with ⟨h3, rfl⟩ | ⟨h3, rfl⟩ | ⟨h3, h5, h4⟩
    · rw [h3]; exact hx
    · rw [h3]; exact hxx
    · exact he _ h4 h3 h5
  refine wpIn_mono (code_soundIn hG (some l) assign ha 1 _ _ _ v h [] a w hf) ?_
  rintro e a1 w1 ⟨_, s', u', bs', ⟨rfl, hloc, hb'⟩, hf', hst, _, _⟩
  have hbs : bs' = [] := by have := hf'.len; rw [hloc] at this; simpa using this
  subst hbs
  refine ⟨u', hst, fun w2 hw2 => ?_⟩
  have hf2 : Fits s' [] u' a1 w2 := ⟨hf'.toFitsE, hf'.len, fun i cs e => by rw [hloc] at e; simp at e, by simp, by simp, hw2⟩
  refine wpIn_mono (code_soundIn hG (some l) body hb 1 _ _ s' u' hb' [] a1 w2 hf2) ?_
  rintro e a2 w3 ⟨_, s2, u2, bs2, ⟨rfl, hj⟩, hf3, hst2, _, _⟩
  exact ⟨rfl, u2, hj, hst2.forget⟩

theorem RgS.introM {P : Program} {α σ : Type} {Nx : σ → α → σ → Prop} {s0 : σ} {En : σ → Prop} {src : Nat} {cell : σ → Obj} {t x x2 n : Nat} {assign body : Code} {env : List (Nat × Value)} {u : H} {K : Nat → H → Prop} {enc enc2 : α → Value} {fv : Value} {ub : H} (hub : ub.le u)
    (hf : ∀ f args w, (∃ fn, P.funcs[f]? = some fn ∧ fn.body.isSome = true) → (callFunc f args).run P w = .ok (.enter f args) w) (hg : (t, fv) ∈ env) (hx : x < n) (hx2 : x2 < n) (h12 : x ≠ x2)
    (hit : ∀ u0, ub.le u0 → IterM P fv enc enc2 src cell Nx s0 En u0) (J : σ → H → Prop) (h0 : J s0 u) (hle : ∀ i v, J i v → ub.le v) (hsrc : ∀ i v, J i v → v src = some (cell i))
    (hbody : ∀ i y i' v, Nx i y i' → J i v → RoundOk2 P n assign body env x x2 (enc y) (enc2 y) (v.ins src (cell i')) (J i'))
    (hK : ∀ s v D, En s → J s v → v D = none → K D (v.ins D (.deferred (some [])))) : RgS P (.rangeFunc (.tmp t) #[x, x2] assign body) n env u K := by
  intro a w hsz henv hdef hsub
  refine (wpIn_wide (n := 0)).1 (wpIn_rangeFunc ?_)
  intro fn _
  have hev : a.eval (.tmp t) = fv := by
    simp only [Act.eval]; rw [Array.getD_eq_getD_getElem?, henv _ hg]; rfl
  obtain ⟨rec, hrec⟩ : ∃ rec : LoopState → Loop, rec = fun st => { state := st, pending := none, fn, tmps := a.tmps, params := #[x, x2], assign, body, defers := w.heap.size } := ⟨_, rfl⟩
  obtain ⟨W1, hW1⟩ : ∃ W1, (w.alloc (.deferred (some []))).alloc (.loop (rec .ready)) = W1 := ⟨_, rfl⟩
  have hsz1 : W1.heap.size = w.heap.size + 2 := by rw [← hW1]; simp
  have hL1 : W1.heap[w.heap.size + 1]? = some (.loop (rec .ready)) := by
    rw [← hW1]; have := World.alloc_heap_new (w.alloc (.deferred (some []))) (.loop (rec .ready)); rwa [World.size_alloc] at this
  have hK1 : W1.heap[w.heap.size]? = some (.deferred (some [])) := by
    rw [← hW1]; exact (Below.heap_alloc _ _ _ (by simp)).trans (World.alloc_heap_new w _)
  have hold : ∀ b, b < w.heap.size → W1.heap[b]? = w.heap[b]? := fun b hb => by
    rw [← hW1]; exact (Below.heap_alloc _ _ _ (by simp; omega)).trans (Below.heap_alloc _ _ _ hb)
  have hlu : u (w.heap.size + 1) = none := hsub.none (by omega)
  have hDu : u w.heap.size = none := hsub.none (Nat.le_refl _)
  have hlb : ub (w.heap.size + 1) = none := by
    cases hx : ub (w.heap.size + 1) with
    | none => rfl
    | some o => rw [hub _ _ hx] at hlu; cases hlu
  have hule : ub.le (ub.ins (w.heap.size + 1) (.loop (rec .ready))) := H.le_ins _ hlb
  have hsub1 : Sub (u.ins (w.heap.size + 1) (.loop (rec .ready))) W1 := by
    intro b o hb
    unfold H.ins at hb
    split at hb
    · rename_i hbl; subst hbl; cases hb; exact hL1
    · have := hsub b o hb
      have hlt := hsub.lt hb
      rw [hold b hlt]; exact this
  -- the iterator's call
  have hcl := hit _ hule (.func (.yield (w.heap.size + 1)) #[] #[])
    (fun i v => ∃ v0, v = v0.ins (w.heap.size + 1) (.loop (rec .ready)) ∧ v0 (w.heap.size + 1) = none ∧ v0 w.heap.size = none ∧ J i v0)
    (fun i v ⟨v0, hv, h1, _, hj⟩ => ⟨by rw [hv]; exact H.ins_le (hle i v0 hj) _ _, by rw [hv, H.ins_other _ _ (fun e => by have := hsrc i v0 hj; rw [e, h1] at this; cases this)]; exact hsrc i v0 hj⟩)
    (by
      rintro i y i' v K' hy ⟨v00, rfl, hl00, hD00, hj⟩ hK'
      have hB := hbody i y i' v00 hy hj
      have hsr := hsrc i v00 hj
      have nl : src ≠ w.heap.size + 1 := fun e => by rw [e, hl00] at hsr; cases hsr
      have nD : src ≠ w.heap.size := fun e => by rw [e, hD00] at hsr; cases hsr
      obtain ⟨v0, hv0⟩ : ∃ v0, v0 = v00.ins src (cell i') := ⟨_, rfl⟩
      rw [← hv0] at hB
      have hl0 : v0 (w.heap.size + 1) = none := by rw [hv0, H.ins_other _ _ (Ne.symm nl)]; exact hl00
      have hD0 : v0 w.heap.size = none := by rw [hv0, H.ins_other _ _ (Ne.symm nD)]; exact hD00
      have ecomm : (v00.ins (w.heap.size + 1) (.loop (rec .ready))).ins src (cell i') = v0.ins (w.heap.size + 1) (.loop (rec .ready)) := by
        rw [hv0]
        funext c
        unfold H.ins
        by_cases e1 : c = src
        · by_cases e2 : c = w.heap.size + 1
          · exact absurd (e1.symm.trans e2) nl
          · rw [if_pos e1, if_neg e2, if_pos e1]
        · rw [if_neg e1]
          by_cases e2 : c = w.heap.size + 1
          · rw [if_pos e2, if_pos e2]
          · rw [if_neg e2, if_neg e2, if_neg e1]
      rw [ecomm]
      refine ⟨_, rfl, fun W hW => ?_⟩
      have hlW : W.heap[w.heap.size + 1]? = some (.loop (rec .ready)) := hW _ _ (H.ins_same _ _ _)
      have hlt : w.heap.size + 1 < W.heap.size := (Array.getElem?_eq_some_iff.1 hlW).1
      have hrun : (Instr.yield (w.heap.size + 1) #[enc y, enc2 y]).run P W = .ok (.round (w.heap.size + 1) fn ((a.tmps.setIfInBounds x (enc y)).setIfInBounds x2 (enc2 y)) assign body) W := by
        have := run_yield (P := P) (args := #[enc y, enc2 y]) hlW (by rw [hrec]; rfl)
        rw [hrec] at this
        simpa using this
      have hsv0 : Sub v0 W := hW.mono (H.le_ins _ hl0)
      refine ⟨fn, _, assign, body, hrun, roundIn_of_wpIn trivial ?_⟩
      refine wpIn_mono (hB (w.heap.size + 1) _ W ?_ ?_ ?_ ?_ rfl hsv0) ?_
      · simpa using hsz
      · intro p hp hpx hpx2
        show ((a.tmps.setIfInBounds x (enc y)).setIfInBounds x2 (enc2 y))[p.1]? = _
        rw [Array.getElem?_setIfInBounds_ne (Ne.symm hpx2), Array.getElem?_setIfInBounds_ne (Ne.symm hpx)]
        exact henv p hp
      · show ((a.tmps.setIfInBounds x (enc y)).setIfInBounds x2 (enc2 y))[x]? = _
        rw [Array.getElem?_setIfInBounds_ne (Ne.symm h12), Array.getElem?_setIfInBounds_self]
        simp [hsz, hx]
      · show ((a.tmps.setIfInBounds x (enc y)).setIfInBounds x2 (enc2 y))[x2]? = _
        rw [Array.getElem?_setIfInBounds_self]
        simp [hsz, hx2]
      · intro e a1 w1 hp
        cases e with
        | normal =>
          obtain ⟨v1, hs1, hb⟩ := hp
          have hlW1 : w1.heap[w.heap.size + 1]? = some (.loop (rec .ready)) := (hs1.rest _ hlt hl0 (by simp)).trans hlW
          have hlt1 : w.heap.size + 1 < w1.heap.size := (Array.getElem?_eq_some_iff.1 hlW1).1
          have hl1 : v1 (w.heap.size + 1) = none := hs1.honest _ hlt hl0
          have hD1 : v1 w.heap.size = none := hs1.honest _ (by omega) hD0
          refine ⟨_, run_beginRound hlW1 (by rw [hrec]), wpIn_mono (hb _ ?_) ?_⟩
          · intro b o hbo
            have hne : b ≠ w.heap.size + 1 := fun e => by rw [e, hl1] at hbo; cases hbo
            exact (World.putObj_heap_other hne).trans (hs1.sub b o hbo)
          · rintro e a2 w3 ⟨rfl, v2, hj2, hs2⟩
            have hlW2 : (w1.putObj (w.heap.size + 1) (.loop { rec .ready with state := .busy })).heap[w.heap.size + 1]? = some (.loop { rec .ready with state := .busy }) := World.putObj_heap_same hlt1
            have hlW3 : w3.heap[w.heap.size + 1]? = some (.loop { rec .ready with state := .busy }) := (hs2.rest _ (by simpa using hlt1) hl1 (by simp)).trans hlW2
            have hlt3 : w.heap.size + 1 < w3.heap.size := (Array.getElem?_eq_some_iff.1 hlW3).1
            have hl2 : v2 (w.heap.size + 1) = none := hs2.honest _ (by simpa using hlt1) hl1
            have hend := run_endRound (P := P) none hlW3
            have erec : ({ { rec .ready with state := LoopState.busy } with state := if (none : Option Code).isNone then .ready else .done, pending := none } : Loop) = rec .ready := by rw [hrec]; rfl
            rw [erec] at hend
            refine ⟨_, _, hend, .bool true, v2.ins (w.heap.size + 1) (.loop (rec .ready)), rfl, ⟨[.bool true], .cons (t := .bool) true .nil, rfl, ?_⟩, ?_⟩
            · exact hK' _ ⟨v2, rfl, hl2, hs2.honest _ (by have := hs1.size; simp; omega) hD1, hj2⟩
            · refine ⟨fun b o hbo => ?_, hs2.os.trans hs1.os, hs2.tape.trans hs1.tape, hs2.output.trans hs1.output, Nat.le_trans hs1.drawn hs2.drawn, ?_, fun b hb hbn _ => ?_, fun b hb hbn => ?_, [], by simp, by simp⟩
              · unfold H.ins at hbo
                split at hbo
                · rename_i hbl; subst hbl; cases hbo; exact World.putObj_heap_same hlt3
                · rename_i hbl; rw [World.putObj_heap_other hbl]; exact hs2.sub b o hbo
              · have h1 := hs1.size
                have h2 := hs2.size
                simp at h2 ⊢
                omega
              · have hne : b ≠ w.heap.size + 1 := fun e => by rw [e, H.ins_same] at hbn; cases hbn
                rw [H.ins_other _ _ hne] at hbn
                have hb1 : b < w1.heap.size := Nat.lt_of_lt_of_le hb hs1.size
                rw [World.putObj_heap_other hne, hs2.rest b (by simpa using hb1) (hs1.honest b hb hbn) (by simp), World.putObj_heap_other hne]
                exact hs1.rest b hb hbn (by simp)
              · have hne : b ≠ w.heap.size + 1 := fun e => by rw [e, H.ins_same] at hbn; cases hbn
                rw [H.ins_other _ _ hne] at hbn ⊢
                exact hs2.honest b (by have := hs1.size; simp; omega) (hs1.honest b hb hbn)
        | _ => exact hp.elim)
    _ (fun v' => ∃ v0, v' = v0.ins (w.heap.size + 1) (.loop (rec .ready)) ∧ v0 (w.heap.size + 1) = none ∧ v0 w.heap.size = none ∧ ∃ s, En s ∧ J s v0) ⟨u, rfl, hlu, hDu, h0⟩ (fun s _ hs ⟨v0, a, b, c, d⟩ => ⟨v0, a, b, c, s, hs, d⟩)
  obtain ⟨gf, gp, cap, hfv, hbf, hcl⟩ := hcl
  rw [hfv] at hev
  refine ⟨w.heap.size + 1, [{ target := .collected w.heap.size, args := #[] }], W1, { target := .fn (.func gf) cap, args := gp ++ #[.func (.yield (w.heap.size + 1)) #[] #[]] }, W1, gf,
    gp ++ #[.func (.yield (w.heap.size + 1)) #[] #[]] ++ cap, W1, ?_, ?_, fun _ _ => trivial, ?_, fun h => by simp [Fence.wide] at h, ?_⟩
  · rw [← hW1, hrec]; exact run_enterLoop_outer _ _ _ _ _
  · simp only [resolve, hev]
    simp [go_sem]
  · simp [invoke, go_sem, hf gf _ _ hbf]
  · refine callsIn_wide.2 ((hcl W1 hsub1).mono ?_)
    rintro e w3 ⟨v, u', rfl, ⟨vs, hk, rfl, hc⟩, hs⟩
    cases hk
    obtain ⟨v0, rfl, hl0, hD0, s, hse, hj⟩ : ∃ v0 : H, u' = v0.ins (w.heap.size + 1) (.loop (rec .ready)) ∧ v0 (w.heap.size + 1) = none ∧ v0 w.heap.size = none ∧ ∃ s, En s ∧ J s v0 := hc
    have hlW3 : w3.heap[w.heap.size + 1]? = some (.loop (rec .ready)) := hs.sub _ _ (H.ins_same _ _ _)
    have hDW3 : w3.heap[w.heap.size]? = some (.deferred (some [])) := by
      rw [hs.rest _ (by omega) (by rw [H.ins_other _ _ (by omega)]; exact hDu) (by simp)]; exact hK1
    have hend : (Instr.endLoop (w.heap.size + 1)).run P w3 = .ok none (w3.putObj (w.heap.size + 1) (.loop { rec .ready with state := .exhausted })) := by
      have := run_endLoop (P := P) hlW3 (by rw [hrec]; simp)
      rw [this]
      rw [hrec]
    refine ⟨none, _, hend, rfl, rfl, w.heap.size, _, ?_, hK s v0 w.heap.size hse hj hD0, ?_⟩
    · simp [hdef, dfsOf]
    · have hs3 := hs.size
      refine ⟨fun b o hbo => ?_, ?_, ?_, ?_, ?_, by simp; omega, fun b hb hbn _ => ?_, fun b hb hbn => ?_, [], by simp, by simp⟩
      · unfold H.ins at hbo
        split at hbo
        · rename_i hbl; subst hbl; cases hbo
          rw [World.putObj_heap_other (by omega)]; exact hDW3
        · have hne : b ≠ w.heap.size + 1 := fun e => by rw [e, hl0] at hbo; cases hbo
          rw [World.putObj_heap_other hne]
          exact hs.sub b o (by rw [H.ins_other _ _ hne]; exact hbo)
      · exact hs.os.trans (by rw [← hW1]; rfl)
      · exact hs.tape.trans (by rw [← hW1]; rfl)
      · exact hs.output.trans (by rw [← hW1]; rfl)
      · exact Nat.le_trans (by rw [← hW1]; exact Nat.le_refl _) hs.drawn
      · have hne : b ≠ w.heap.size + 1 := by omega
        rw [World.putObj_heap_other hne, hs.rest b (by omega) (by rw [H.ins_other _ _ hne]; exact hbn) (by simp)]
        exact hold b hb
      · have hne : b ≠ w.heap.size + 1 := by omega
        have := hs.honest b (by omega) (by rw [H.ins_other _ _ hne]; exact hbn)
        rw [H.ins_other _ _ hne] at this
        rw [H.ins_other _ _ (by omega)]; exact this

theorem RgS.code2 {P : Program} {c : Code} {t x x2 n : Nat} {env : List (Nat × Value)} {u : H} {K : Nat → H → Prop} (hc : c = .rangeFunc (.tmp t) #[x, x2] (rgA c) (rgB c)) (h : RgS P (.rangeFunc (.tmp t) #[x, x2] (rgA c) (rgB c)) n env u K) : RgS P c n env u K := by
  rw [hc]; exact h

end Go.Proofs.YtljbcihbgeiacaaGreat

/- VcPerm -/
namespace Go.Proofs.YtljbcihbgeiacaaGreat

def nxS (st : Int) : Int := IntKind.u64.wrap (st + 11400714819323198485)
def outS (x : Int) : Int :=
  bits .xor .u64 (IntKind.u64.wrap (bits .xor .u64 (IntKind.u64.wrap (bits .xor .u64 x (Int.fdiv x (2 ^ 30)) * 13787848793156543929)) (Int.fdiv (IntKind.u64.wrap (bits .xor .u64 x (Int.fdiv x (2 ^ 30)) * 13787848793156543929)) (2 ^ 27)) * 10723151780598845931))
    (Int.fdiv (IntKind.u64.wrap (bits .xor .u64 (IntKind.u64.wrap (bits .xor .u64 x (Int.fdiv x (2 ^ 30)) * 13787848793156543929)) (Int.fdiv (IntKind.u64.wrap (bits .xor .u64 x (Int.fdiv x (2 ^ 30)) * 13787848793156543929)) (2 ^ 27)) * 10723151780598845931)) (2 ^ 31))

theorem bits_U (op : BinOp) (x y : Int) : U64 (bits op .u64 x y) := by
  have := wf_bits op .u64 x y
  simp [Lit.wf, IntKind.min, IntKind.max, IntKind.signed, IntKind.bits] at this
  unfold U64
  omega

theorem wrap_U (x : Int) : U64 (IntKind.u64.wrap x) := by
  have := wf_wrap .u64 x
  simp [Lit.wf, IntKind.min, IntKind.max, IntKind.signed, IntKind.bits] at this
  unfold U64
  omega

theorem outS_U (x : Int) : U64 (outS x) := bits_U _ _ _
theorem nxS_U (x : Int) : U64 (nxS x) := wrap_U _

theorem below_eq {x n : Int} (hx : U64 x) (h1 : 1 ≤ n) (h2 : n ≤ 1000000000) : IntKind.u64.wrap n ≠ 0 ∧ IntKind.i64.wrap (Int.tmod x (IntKind.u64.wrap n)) = x % n := by
  have e1 : IntKind.u64.wrap n = n := IntWalk.u64_in n (by omega)
  have e2 : Int.tmod x n = x % n := Int.tmod_eq_emod_of_nonneg hx.1
  have h3 := Int.emod_nonneg x (show n ≠ 0 by omega)
  have h4 := Int.emod_lt_of_pos x (show 0 < n by omega)
  rw [e1, e2]
  exact ⟨by omega, IntWalk.i64_in _ (by omega)⟩

theorem spec.rand_Next {src : Nat} {st : Int} {u : H} {K : Int → H → Prop} (h : u src = some (.cells #[.int .u64 st] 219 (0, 0)))
    (hK : K (outS (nxS st)) (u.ins src (.cells #[.int .u64 (nxS st)] 219 (0, 0)))) : C.rand_Source__Next (some ⟨src, 0, none⟩) u K := by
  apply vc.rand_Source__Next
  exact ⟨fun h => (by cases h), fun _ => ⟨_, rfl, st, H.cell?_of h 0, _, rfl, st_one h (by simp [Value.oneCell']) ⟨_, rfl, _, H.cell?_of (H.ins_same _ _ _) 0, by omega, by omega, by omega, hK⟩⟩⟩

theorem spec.ref04_Next {src : Nat} {st : Int} {u : H} {K : Int → H → Prop} (h : u src = some (.cells #[.int .u64 st] 167 (0, 0)))
    (hK : K (outS (nxS st)) (u.ins src (.cells #[.int .u64 (nxS st)] 167 (0, 0)))) : C.theodoliteref04_Source__Next (some ⟨src, 0, none⟩) u K := by
  apply vc.theodoliteref04_Source__Next
  exact ⟨_, rfl, st, H.cell?_of h 0, _, rfl, st_one h (by simp [Value.oneCell']) ⟨_, rfl, _, H.cell?_of (H.ins_same _ _ _) 0, by omega, by omega, by omega, hK⟩⟩

theorem spec.ref04_Below {src : Nat} {st n : Int} {u : H} {K : Int → Int → H → Prop} (h : u src = some (.cells #[.int .u64 st] 167 (0, 0))) (h1 : 1 ≤ n) (h2 : n ≤ 1000000000)
    (hK : K (outS (nxS st) % n) 0 (u.ins src (.cells #[.int .u64 (nxS st)] 167 (0, 0)))) : C.theodoliteref04_Source__Below (some ⟨src, 0, none⟩) n u K := by
  obtain ⟨e1, e2⟩ := below_eq (outS_U (nxS st)) h1 h2
  apply vc.theodoliteref04_Source__Below
  intro K0 h0
  refine ⟨fun h => by omega, fun _ => ⟨fun h => by omega, fun _ => h0 _ _ _ (spec.ref04_Next h ⟨e1, ?_⟩)⟩⟩
  rw [e2]
  exact hK

/-- Places changed, from place i down to 1. -/
def permA : Nat → Int → List Int → List Int
  | 0, _, l => l
  | i + 1, st, l => permA i (nxS st) (swapL l (i + 1) (outS (nxS st) % ((i : Int) + 2)).toNat)

def numsL (n : Nat) : List Int := (List.range n).map fun i : Nat => (i : Int)
def permF (st : Int) (n : Nat) : List Int := permA (n - 1) st (numsL n)

theorem permA_perm : ∀ (i : Nat) (st : Int) (l : List Int), i < l.length → (permA i st l).Perm l := by
  intro i
  induction i with
  | zero => intro st l _; exact .refl _
  | succ i ih =>
    intro st l h
    have h3 := Int.emod_nonneg (outS (nxS st)) (show (i : Int) + 2 ≠ 0 by omega)
    have h4 := Int.emod_lt_of_pos (outS (nxS st)) (show 0 < (i : Int) + 2 by omega)
    unfold permA
    exact (ih _ _ (by rw [swapL_len]; omega)).trans (swapL_perm h (by omega))

theorem permF_perm (st : Int) (n : Nat) : (permF st n).Perm (numsL n) := by
  unfold permF
  cases n with
  | zero => exact .refl _
  | succ n => exact permA_perm _ _ _ (by simp [numsL])

end Go.Proofs.YtljbcihbgeiacaaGreat
