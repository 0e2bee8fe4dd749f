/- Texts of mine, joined by merge.py: VcDel, VcDel2, VcRand, VcLay, VcLay2, VcHnsw, VcHnsw2, VcSrch, VcSrch2, VcIx. -/
import Derived.Test.YtpbelkpfljhjlaaGreatDoorMrg7
import Derived.Shelf.Spec.TrailingZeros
import Derived.OpenShut
set_option maxRecDepth 100000

/- VcDel -/
namespace Go.Proofs.YtpbelkpfljhjlaaGreatDoor

def cutL (id : Int) (l : List Int) : List Int := l.filter fun x => !decide (x = id)

/-- Of some rows, and of one up to a level, the lists without id. -/
structure CutS (id : Int) (g g' : List (Int × Nd)) (D : List Int) (i : Int) (j : Nat) : Prop where
  al : Alike g g'
  kn : ∀ a n n', getN g a = some n → getN g' a = some n' → ∀ (lv : Nat) l', n'.kn[lv]? = some l' → ∃ l, n.kn[lv]? = some l ∧ l' = if a ∈ D ∨ (a = i ∧ lv < j) then cutL id l else l

theorem CutS.refl (id : Int) (g : List (Int × Nd)) (i : Int) : CutS id g g [] i 0 :=
  ⟨Alike.refl g, fun a n n' h h' lv l' hl => by
    rw [h] at h'; cases h'
    exact ⟨l', hl, by simp⟩⟩

theorem CutS.step {id : Int} {g g' : List (Int × Nd)} {D : List Int} {i : Int} {j : Nat} (h : CutS id g g' D i j) (hi : i ∉ D) {n' : Nd} (hn : getN g' i = some n') {l' : List Int} (hl : n'.kn[j]? = some l') (s : Sl) :
    CutS id g (setN g' i (n'.setK j s (cutL id l'))) D i (j + 1) := by
  refine ⟨h.al.trans (Alike.setK hn j s _), fun a n m hg hm lv l2 hl2 => ?_⟩
  rw [getN_setN] at hm
  by_cases e : a = i
  · subst e
    rw [if_pos rfl, hn] at hm; cases hm
    rcases setK_kn hl2 with ⟨rfl, rfl⟩ | ⟨hne, hk⟩
    · obtain ⟨l, k1, k2⟩ := h.kn a n n' hg hn lv l' hl
      refine ⟨l, k1, ?_⟩
      rw [if_neg (by rintro (h1 | ⟨_, h1⟩); exact hi h1; omega)] at k2
      rw [if_pos (.inr ⟨rfl, by omega⟩), k2]
    · obtain ⟨l, k1, k2⟩ := h.kn a n n' hg hn lv l2 hk
      refine ⟨l, k1, ?_⟩
      rw [k2]
      by_cases hc : lv < j
      · rw [if_pos (.inr ⟨rfl, hc⟩), if_pos (.inr ⟨rfl, by omega⟩)]
      · rw [if_neg (by rintro (h1 | ⟨_, h1⟩); exact hi h1; omega), if_neg (by rintro (h1 | ⟨_, h1⟩); exact hi h1; omega)]
  · rw [if_neg e] at hm
    obtain ⟨l, k1, k2⟩ := h.kn a n m hg hm lv l2 hl2
    refine ⟨l, k1, ?_⟩
    rw [k2]
    simp [e]

theorem CutS.next {id : Int} {g g' : List (Int × Nd)} {D : List Int} {i : Int} (h : CutS id g g' D i 31) (hlen : ∀ n', getN g' i = some n' → n'.kn.length = 31) (i' : Int) : CutS id g g' (D ++ [i]) i' 0 :=
  ⟨h.al, fun a n n' hg hg' lv l' hl => by
    obtain ⟨l, k1, k2⟩ := h.kn a n n' hg hg' lv l' hl
    refine ⟨l, k1, ?_⟩
    rw [k2]
    by_cases e : a = i
    · subst e
      have := hlen n' hg'
      have h2 : lv < 31 := by rw [← this]; exact (List.getElem?_eq_some_iff.1 hl).1
      simp [h2]
    · simp [e]⟩

theorem CutS.turn {id : Int} {g g' : List (Int × Nd)} {D : List Int} {i : Int} (h : CutS id g g' D i 0) (i' : Int) : CutS id g g' D i' 0 :=
  ⟨h.al, fun a n n' hg hg' lv l' hl => by
    obtain ⟨l, k1, k2⟩ := h.kn a n n' hg hg' lv l' hl
    exact ⟨l, k1, by rw [k2]; simp⟩⟩

theorem getN_filter {g : List (Int × Nd)} {id : Int} (i : Int) : getN (g.filter fun x => x.1 != id) i = if i = id then none else getN g i := by
  induction g with
  | nil => simp [getN]
  | cons x g ih =>
    unfold getN at *
    rw [List.filter_cons]
    by_cases hx : x.1 = id
    · have e1 : (x.1 != id) = false := by simp [hx]
      rw [e1]
      simp only [Bool.false_eq_true, if_false]
      rw [ih]
      by_cases hi : i = id
      · rw [if_pos hi, if_pos hi]
      · rw [if_neg hi, if_neg hi, List.find?_cons, beq_false_of_ne (show x.1 ≠ i from fun e => hi (by rw [← e]; exact hx))]
    · have e1 : (x.1 != id) = true := by simp [hx]
      rw [e1]
      simp only [if_true, List.find?_cons]
      by_cases hi : x.1 = i
      · subst hi
        simp [hx]
      · rw [beq_false_of_ne hi]
        exact ih

theorem filter_ids {g : List (Int × Nd)} {id i : Int} : i ∈ (g.filter fun x => x.1 != id).map (·.1) ↔ i ∈ g.map (·.1) ∧ i ≠ id := by
  simp only [List.mem_map, List.mem_filter, bne_iff_ne, ne_eq]
  constructor
  · rintro ⟨x, ⟨h1, h2⟩, rfl⟩; exact ⟨⟨x, h1, rfl⟩, h2⟩
  · rintro ⟨⟨x, h1, rfl⟩, h2⟩; exact ⟨x, ⟨h1, h2⟩, rfl⟩

theorem ptrs_filter (g : List (Int × Nd)) (id : Int) : (ptrs g).filter (fun p => p.1 != id) = ptrs (g.filter fun x => x.1 != id) := by
  unfold ptrs
  rw [List.filter_map]
  rfl

/-- Where all lists are cut, all is as it must be without id. -/
theorem CutS.ok {id dim links : Int} {g g' : List (Int × Nd)} {D : List Int} {i : Int} (hK : KOk dim links g) (hnd : (g.map (·.1)).Nodup) (h : CutS id (g.filter fun x => x.1 != id) g' D i 0) (hD : ∀ a ∈ (g.filter fun x => x.1 != id).map (·.1), a ∈ D) : KOk dim links g' := by
  have hnd1 : ((g.filter fun x => x.1 != id).map (·.1)).Nodup := hnd.sublist (List.filter_sublist.map _)
  have hg1 : GOk dim (g.filter fun x => x.1 != id) → GOk dim g' := fun hg => hg.alike h.al hnd1 fun a n' l' hn' hl' x hx => by
    have ha : a ∈ (g.filter fun x => x.1 != id).map (·.1) := by rw [← h.al.ids]; exact List.mem_map.2 ⟨_, getN_mem hn', rfl⟩
    obtain ⟨n, hn⟩ := getN_some ha
    obtain ⟨k, hk⟩ := List.mem_iff_getElem?.1 hl'
    obtain ⟨l, k1, k2⟩ := h.kn a n n' hn hn' k l' hk
    rw [if_pos (.inl (hD a ha))] at k2
    rw [k2] at hx
    simp only [cutL, List.mem_filter, Bool.not_eq_true', decide_eq_false_iff_not] at hx
    rw [getN_filter] at hn
    split at hn
    · cases hn
    · exact filter_ids.2 ⟨hK.ok.known _ (getN_mem hn) l (List.mem_of_getElem? k1) x hx.1, hx.2⟩
  have many : ∀ a n' (lv : Nat) l', getN g' a = some n' → n'.kn[lv]? = some l' → (l'.length : Int) ≤ mostI links lv ∧ l'.Nodup ∧ a ∉ l' := by
    intro a n' lv l' hn' hl'
    have ha : a ∈ (g.filter fun x => x.1 != id).map (·.1) := by rw [← h.al.ids]; exact List.mem_map.2 ⟨_, getN_mem hn', rfl⟩
    obtain ⟨n, hn⟩ := getN_some ha
    obtain ⟨l, k1, k2⟩ := h.kn a n n' hn hn' lv l' hl'
    rw [if_pos (.inl (hD a ha))] at k2
    rw [getN_filter] at hn
    split at hn
    · cases hn
    · obtain ⟨m1, m2, m3⟩ := hK.many a n lv l hn k1
      rw [k2]
      refine ⟨?_, m2.sublist List.filter_sublist, fun hm => m3 (List.mem_filter.1 hm).1⟩
      have := List.length_filter_le (fun x => !decide (x = id)) l
      unfold cutL; omega
  -- the rows themselves
  refine ⟨?_, many⟩
  have old : ∀ x ∈ g', ∃ n, getN g x.1 = some n ∧ x.2.v = n.v ∧ x.2.top = n.top ∧ x.1 ≠ id := fun x hx => by
    have hid : x.1 ∈ (g.filter fun x => x.1 != id).map (·.1) := by rw [← h.al.ids]; exact List.mem_map.2 ⟨x, hx, rfl⟩
    obtain ⟨n, hn⟩ := getN_some hid
    obtain ⟨n', e1, _, e3, e4⟩ := h.al.at' _ _ hn
    have hnd' : (g'.map (·.1)).Nodup := by rw [h.al.ids]; exact hnd1
    have := getN_eq hnd' (id := x.1) (n := x.2) hx
    rw [e1] at this
    cases this
    rw [getN_filter] at hn
    split at hn
    · cases hn
    · rename_i hne; exact ⟨n, hn, e3, e4, hne⟩
  have hlen : g'.length ≤ g.length := by
    have := congrArg List.length h.al.ids
    simp only [List.length_map] at this
    rw [this]; exact List.length_filter_le _ _
  refine ⟨hK.ok.dm, fun x hx => ?_, fun x hx => ?_, fun x hx l' hl' y hy => ?_, fun x hx => ?_, Nat.le_trans hlen hK.ok.small⟩
  · obtain ⟨n, hn, e1, _⟩ := old x hx
    have := hK.ok.vec _ (getN_mem hn)
    rw [e1]; exact this
  · obtain ⟨n, hn, _, e2, _⟩ := old x hx
    have := hK.ok.top _ (getN_mem hn)
    rw [e2]; exact this
  · rw [h.al.ids]
    have hnd' : (g'.map (·.1)).Nodup := by rw [h.al.ids]; exact hnd1
    have hn' := getN_eq hnd' (id := x.1) (n := x.2) hx
    have ha : x.1 ∈ (g.filter fun x => x.1 != id).map (·.1) := by rw [← h.al.ids]; exact List.mem_map.2 ⟨x, hx, rfl⟩
    obtain ⟨n, hn⟩ := getN_some ha
    obtain ⟨k, hk⟩ := List.mem_iff_getElem?.1 hl'
    obtain ⟨l, k1, k2⟩ := h.kn x.1 n x.2 hn hn' k l' hk
    rw [if_pos (.inl (hD x.1 ha))] at k2
    rw [k2] at hy
    simp only [cutL, List.mem_filter, Bool.not_eq_true', decide_eq_false_iff_not] at hy
    rw [getN_filter] at hn
    split at hn
    · cases hn
    · exact filter_ids.2 ⟨hK.ok.known _ (getN_mem hn) l (List.mem_of_getElem? k1) y hy.1, hy.2⟩
  · obtain ⟨n, hn, _⟩ := old x hx
    exact hK.ok.ids (x.1, n) (getN_mem hn)

/-- id's row is out of the map; its blocks are nobody's. -/
theorem In.remove {u0 u : H} {fp : Nat → Option Tg} {b : Nat} {T : Tr} (h : In u0 u fp b T) {id : Int} {o : Obj} (hm : MapAt (u.ins T.m o) T.m ((ptrs T.g).filter fun p => p.1 != id)) {n : Nd} (hn : getN T.g id = some n) :
    ∃ fp1, In u0 (u.ins T.m o) fp1 b { T with g := T.g.filter fun x => x.1 != id } ∧ Turn u fp (u.ins T.m o) fp1 ∧ (∀ c, Mine fp id c → fp1 c = none) ∧ NdAt fp (u.ins T.m o) id n := by
  rw [ptrs_filter] at hm
  obtain ⟨h1, h2⟩ := h.setMap hm fun x hx => h.tr.nodes x (List.mem_filter.1 hx).1
  obtain ⟨_, _, _, n4⟩ := h.ne_node
  have hN : NdAt fp (u.ins T.m o) id n := (h.tr.node hn).keep (fun _ _ => rfl) fun c y hy hmm => by rw [H.ins_other _ _ (n4 _ c hmm).2.1]; exact hy
  let fp1 : Nat → Option Tg := fun c => open Classical in if Mine fp id c then none else fp c
  have e1 : ∀ c, Mine fp id c → fp1 c = none := fun c hc => if_pos hc
  have e2 : ∀ c, ¬ Mine fp id c → fp1 c = fp c := fun c hc => if_neg hc
  have e3 : ∀ c, fp1 c ≠ none → fp c ≠ none := fun c hc => by
    by_cases hm : Mine fp id c
    · exact absurd (e1 c hm) hc
    · rw [e2 c hm] at hc; exact hc
  have no : ∀ {c : Nat} {t : Tg}, fp c = some t → (∀ i, t ≠ .node i) → (∀ i, t ≠ .vec i) → (∀ i lv, t ≠ .arr i lv) → fp1 c = fp c := fun e h1 h2 h3 => e2 _ (by
    rintro (e2 | e2 | ⟨lv, e2⟩) <;> rw [e] at e2 <;> cases e2
    · exact h1 _ rfl
    · exact h2 _ rfl
    · exact h3 _ _ rfl)
  have nb := no h.tr.btag (by simp) (by simp) (by simp)
  have ns := no h.tr.stag (by simp) (by simp) (by simp)
  have nm := no h.tr.mtag (by simp) (by simp) (by simp)
  refine ⟨fp1, ⟨⟨h1.tr.cell, h1.tr.src, h1.tr.stU, h1.tr.map, by rw [nb]; exact h.tr.btag, by simp only; rw [ns]; exact h.tr.stag, by simp only; rw [nm]; exact h.tr.mtag, fun x hx => ?_⟩, h1.le, fun c hc => h.out c (e3 c hc), fun c hc => h1.known c (e3 c hc)⟩,
    ⟨h2.keep, fun c hc => h2.grow c (e3 c hc)⟩, e1, hN⟩
  have hne : x.1 ≠ id := by simpa using (List.mem_filter.1 hx).2
  refine (h1.tr.nodes x hx).keep (fun c hc => e2 c ?_) fun _ _ hy _ => hy
  rintro (e | e | ⟨lv, e⟩) <;> rcases hc with k | k | ⟨lv2, k⟩ <;> rw [e] at k <;> cases k <;> exact hne rfl

end Go.Proofs.YtpbelkpfljhjlaaGreatDoor

/- VcDel2 -/
namespace Go.Proofs.YtpbelkpfljhjlaaGreatDoor

theorem bDel1 : hasBody Tryz.prog 62 = true := by kernel_rfl

/-- Whom to forget. -/
theorem del_pred {n0 : Nat} {id : Int} {T : TypeId} : PredOk (H0.ins n0 (.cells #[.int .i64 id] T (0, 0))) (.func (.func 62) #[] #[.pointer (some ⟨n0, 0, none⟩)]) (fun x => decide (x = id)) :=
  fun x v _ hv hK => .inl ⟨_, _, rfl, bodyOf bDel1, vc.hnsw_Tree__Delete_1 x ⟨n0, 0, none⟩ v _ ⟨id, H.cell?_of (hv _ _ (H.ins_same _ _ _)) 0, hK⟩⟩

/-- What a deletion leaves. -/
structure DelRes (u0 u : H) (fp : Nat → Option Tg) (b : Nat) (T : Tr) (id : Int) (u' : H) (fp' : Nat → Option Tg) (T' : Tr) : Prop where
  is : In u0 u' fp' b T'
  turn : Turn u fp u' fp'
  ok : TOk T'
  rows : rowsG T'.g = (rowsG T.g).filter fun x => x.1 != id
  dim : T'.dim = T.dim
  links : T'.links = T.links

/-- The rows that are left, all in order but the entry. -/
structure Mid (u0 uD : H) (fp1 : Nat → Option Tg) (b : Nat) (T : Tr) (g1 : List (Int × Nd)) (v : H) : Prop where
  ex : ∃ fp' g', In u0 v fp' b { T with g := g' } ∧ Turn uD fp1 v fp' ∧ Alike g1 g' ∧ KOk T.dim T.links g'

/-- The round over the map: so many rows' lists are cut, k: how many at most are left. -/
structure DelI (u0 uD : H) (fp1 : Nat → Option Tg) (b : Nat) (T : Tr) (g1 : List (Int × Nd)) (id : Int) (r : Nat) (k : Nat) (v : H) : Prop where
  ex : ∃ dl fp' g', In u0 v fp' b { T with g := g' } ∧ (∀ c o, uD c = some o → fp1 c = none → v c = some o) ∧ (∀ c, fp' c ≠ none → fp1 c ≠ none ∨ uD c = none) ∧ fp' r = none ∧ CutS id g1 g' (dl.map (·.1)) id 0 ∧
    IterAt v r T.m (ptrs g1) dl ∧ (ptrs g1).length - dl.length ≤ k

theorem rowsG_filter (g : List (Int × Nd)) (id : Int) : rowsG (g.filter fun x => x.1 != id) = (rowsG g).filter fun x => x.1 != id := by
  unfold rowsG
  rw [List.filter_map]
  rfl

theorem getD_some {l : List Int} {i : Nat} (h : i < l.length) : l[i]? = some (l.getD i 0) := by rw [List.getD_eq_getElem?_getD, List.getElem?_eq_getElem h]; rfl

theorem sorted_keysN {u : H} {b : Nat} {l : List (Int × Value)} {K : Sl → H → Prop} (h : MapAt u b l) (hl : l.length ≤ 1000000) (hK : ∀ s u', OwnF u u' 3 1 s ((sortI (l.map (·.1))).flatMap encI) → K s u') :
    C.maps_Keys_map_hnsw_node_ (some b) u fun fv u1 => C.slices_Sorted_int_ fv u1 K := by
  have hnd : (l.map (·.1)).Nodup := by obtain ⟨_, _, _, he⟩ := h; exact he.nodup
  refine vc.maps_Keys_map_hnsw_node_ (some b) u _ fun n0 hn0 => ?_
  have hle := H.le_ins (u := u) (b := n0) (.cells #[.map (some b)] 89 (0, 0)) hn0
  exact spec.slices_Sorted_int_ hl hnd (fun u0 hu0 => keysN_iter nodeTy (h.mono (hle.trans hu0)) (H.cell?_of (hu0 _ _ (H.ins_same _ _ _)) 0)) fun s u' ho => hK s u' (ho.weaken hle)

theorem ptrs_ids (g : List (Int × Nd)) : (ptrs g).map (·.1) = g.map (·.1) := by
  unfold ptrs; rw [List.map_map]; rfl

theorem spec.hnsw_Tree__Delete {u0 u : H} {fp : Nat → Option Tg} {b : Nat} {T : Tr} {id : Int} {K : Bool → Int → H → Prop} (h : In u0 u fp b T) (hT : TOk T)
    (hno : getN T.g id = none → ∀ u', u.le u' → K false 0 u') (hyes : ∀ n, getN T.g id = some n → ∀ u' fp' T', DelRes u0 u fp b T id u' fp' T' → K true 0 u') : C.hnsw_Tree__Delete (some ⟨b, 0, none⟩) id u K := by
  have hnd := h.tr.nodup
  apply vc.hnsw_Tree__Delete
  intro n0 hn0
  refine ⟨fun e => (by cases e), fun _ => ?_⟩
  have le0 := H.le_ins (u := u) (b := n0) (.cells #[.int .i64 id] 3 (0, 0)) hn0
  have h0 := h.mono le0
  have b0 : (u.ins n0 (.cells #[.int .i64 id] 3 (0, 0))) n0 = some (.cells #[.int .i64 id] 3 (0, 0)) := H.ins_same _ _ _
  have hfp0 : fp n0 = none := h.fresh hn0
  obtain ⟨u1, hu1⟩ : ∃ u1, u.ins n0 (.cells #[.int .i64 id] 3 (0, 0)) = u1 := ⟨_, rfl⟩
  rw [hu1] at h0 b0 le0 ⊢
  obtain ⟨_, _, _, c3, _⟩ := tree_cells h0.tr
  refine ⟨_, rfl, _, c3, _, H.cell?_of b0 0, ?_⟩
  refine sem_get2 nodeTy h0.tr.map (ct := .ptr) ((getN T.g id).map fun n => (⟨n.p, 0, none⟩ : Addr)) ?_ ?_
  · rw [getL_ptrs]; cases getN T.g id <;> rfl
  have hsome : (getL (ptrs T.g) id).isSome = (getN T.g id).isSome := by rw [getL_ptrs]; cases getN T.g id <;> rfl
  rw [hsome]
  refine ⟨fun hf => hno (by simpa using hf) _ le0, fun ht => ?_⟩
  obtain ⟨gone, hgone⟩ := Option.isSome_iff_exists.1 ht
  have hyes := hyes gone hgone
  rw [hgone]
  refine ⟨_, rfl, _, c3, _, H.cell?_of b0 0, sem_del nodeTy h0.tr.map fun o hmo => ?_⟩
  obtain ⟨fp1, hD, hDt, hmine, hNg⟩ := h0.remove hmo hgone
  obtain ⟨_, _, _, n4⟩ := h0.ne_node
  have hg0 : (u1.ins T.m o) n0 = some (.cells #[.int .i64 id] 3 (0, 0)) := by
    have : n0 ≠ T.m := fun e => by have := h.tr.mtag; rw [← e, hfp0] at this; cases this
    rw [H.ins_other _ _ this]; exact b0
  have hf10 : fp1 n0 = none := hDt.none b0 hfp0
  have hmapD : MapAt (u1.ins T.m o) T.m (ptrs (T.g.filter fun x => x.1 != id)) := hD.tr.map
  obtain ⟨uD, huD⟩ : ∃ uD, u1.ins T.m o = uD := ⟨_, rfl⟩
  obtain ⟨g1, hg1⟩ : ∃ g1, (T.g.filter fun x => x.1 != id) = g1 := ⟨_, rfl⟩
  rw [huD, hg1] at hD
  rw [huD] at hDt hNg hg0 ⊢
  rw [huD, hg1] at hmapD
  have hnd1 : (g1.map (·.1)).Nodup := hD.tr.nodup
  have hturn : Turn u fp uD fp1 := (Turn.mono le0).trans hDt
  obtain ⟨_, _, _, d3, _⟩ := tree_cells hD.tr
  refine ⟨_, rfl, _, d3, sem_range nodeTy hmapD fun r or hr hit0 => ?_⟩
  have hfr : fp1 r = none := hD.fresh hr
  have hr0 : u0 r = none := hD.le.none hr
  have hrn : r ≠ n0 := fun e => by rw [e, hg0] at hr; cases hr
  -- the gone row's lists
  have hgl : ∀ lv : Nat, lv < 31 → ∃ s l, gone.kn[lv]? = some l ∧ ∀ v : H, (∀ c o, uD c = some o → fp1 c = none → v c = some o) → v.cell? (((Addr.mk gone.p 0 none).add 1).add (lv * 1)) = some (.slice s.a s.n s.c) ∧ Ints v s l := by
    intro lv hlv
    obtain ⟨s, l, h1, h2, h3, h4, h5⟩ := known_cell hNg hlv
    refine ⟨s, l, h2, fun v hv => ⟨?_, ?_⟩⟩
    · have := hv _ _ hNg.cell (hmine _ (.inl hNg.tag))
      rw [node_addr]
      rw [node_addr, node_cell hNg] at h3
      simp only [H.cell?, this]
      simpa using h3
    · exact Seg.else h4.ints fun g x hg hx => hv g x hx (hmine g (.inr (.inr ⟨lv, h5 g hg⟩)))
  -- the round over the map
  refine ⟨fun v => ∃ k, DelI u0 uD fp1 b T g1 id r k v, fun v => least fun k => DelI u0 uD fp1 b T g1 id r k v,
    ⟨_, [], fp1, g1, hD.aside hfr hr0 or, fun c y hc _ => H.le_ins _ hr c y hc, fun c hc => .inl hc, hfr, CutS.refl id g1 id, hit0, Nat.le_refl _⟩, ?_⟩
  intro v hv
  have hI := least_is hv
  obtain ⟨k, hk⟩ : ∃ k, (least fun k => DelI u0 uD fp1 b T g1 id r k v) = k := ⟨_, rfl⟩
  dsimp only
  rw [hk] at hI ⊢
  obtain ⟨dl, fp', g', hin, hkeep, hgrow, hfpr, hcut, hit, hlen⟩ := hI
  clear hv
  refine nextT_of hit (fun hperm => ?_) fun p o2 hp hnp hit2 => ?_
  · -- those that knew one another through it
    have hal : ∀ a ∈ g1.map (·.1), a ∈ dl.map (·.1) := fun a ha => by
      rw [← ptrs_ids] at ha
      exact ((hperm.map (·.1)).mem_iff (a := a)).2 ha
    have hK0 : KOk T.dim T.links g' := by
      rw [← hg1] at hcut hal
      exact hcut.ok hT.k hnd hal
    have hM0 : Mid u0 uD fp1 b T g1 v := ⟨fp', g', hin, ⟨hkeep, hgrow⟩, hcut.al, hK0⟩
    have hgoneT : id ∈ T.g.map (·.1) := List.mem_map.2 ⟨_, getN_mem hgone, rfl⟩
    have hids : ∀ a, a ∈ g1.map (·.1) ↔ a ∈ T.g.map (·.1) ∧ a ≠ id := fun a => by rw [← hg1]; exact filter_ids
    clear hcut hit hin hkeep hgrow hlen hal hK0
    refine ⟨fun lv w => 0 ≤ lv ∧ lv ≤ 31 ∧ Mid u0 uD fp1 b T g1 w, fun lv _ => (31 - lv).toNat, ⟨by omega, by omega, hM0⟩, ?_⟩
    rintro lv w ⟨lv0, lv1, hM⟩
    refine ⟨fun hlt => ?_, fun hge => ?_⟩
    · obtain ⟨s, l, hkn, hread⟩ := hgl lv.toNat (by omega)
      obtain ⟨m1, m2, m3⟩ := hT.k.many id gone lv.toNat l hgone hkn
      have hlin : ∀ y ∈ l, y ∈ g1.map (·.1) := fun y hy => (hids y).2 ⟨hT.k.ok.known _ (getN_mem hgone) l (List.mem_of_getElem? hkn) y hy, fun e => m3 (e ▸ hy)⟩
      have hkw : ∀ {w2 : H}, Mid u0 uD fp1 b T g1 w2 → ∀ c o, uD c = some o → fp1 c = none → w2 c = some o := fun ⟨_, _, _, ht, _⟩ => ht.keep
      obtain ⟨hcs, hints⟩ := hread w (hkw hM)
      have hsn := hints.len
      have hsm := hints.max
      refine ⟨_, rfl, by decide, ⟨by omega, by omega⟩, s, hcs, ?_⟩
      refine ⟨fun i w2 => 1 ≤ i ∧ Mid u0 uD fp1 b T g1 w2, fun i _ => l.length - i.toNat, ⟨by omega, hM⟩, ?_⟩
      rintro i w2 ⟨i1, hM2⟩
      obtain ⟨_, hints2⟩ := hread w2 (hkw hM2)
      have hn0w := hkw hM2 n0 _ hg0 hf10
      refine ⟨fun hil => ?_, fun hige => ⟨⟨by omega, by omega⟩, ⟨by omega, by omega, hM2⟩, by dsimp only; omega⟩⟩
      intro K29 hK29
      obtain ⟨q, hq, hc1⟩ := hints2.at (x := i - 1) (by omega) (by omega)
      obtain ⟨q', hq', hc2⟩ := hints2.at (x := i) (by omega) (by omega)
      have hqq : q' = q := by rw [hq] at hq'; exact (Option.some.inj hq').symm
      subst hqq
      have hx1 : l[(i - 1).toNat]? = some (l.getD (i - 1).toNat 0) := getD_some (by omega)
      have hx2 : l[i.toNat]? = some (l.getD i.toNat 0) := getD_some (by omega)
      have hne : l.getD i.toNat 0 ≠ l.getD (i - 1).toNat 0 := fun e => by
        have h1 : (i - 1).toNat < l.length := by omega
        have h2 : i.toNat < l.length := by omega
        have := List.pairwise_iff_getElem.1 m2 (i - 1).toNat i.toNat h1 h2 (by omega)
        rw [List.getD_eq_getElem?_getD, List.getD_eq_getElem?_getD, List.getElem?_eq_getElem h1, List.getElem?_eq_getElem h2] at e
        exact this (by simpa using e.symm)
      have skip : K29 false w2 := hK29 _ _ ⟨fun e => (by cases e), fun _ => ⟨⟨by omega, by omega⟩, ⟨by omega, hM2⟩, by dsimp only; omega⟩⟩
      refine ⟨⟨by omega, by omega⟩, _, hq, ⟨by omega, by omega⟩, _, hc1, _, H.cell?_of hn0w 0, fun hne1 => ⟨_, hq, ⟨by omega, by omega⟩, _, hc2, _, H.cell?_of hn0w 0, fun hne2 => ?_, fun _ => ⟨H.le.refl _, H.le.refl _, skip⟩⟩, fun _ => ⟨H.le.refl _, H.le.refl _, skip⟩⟩
      obtain ⟨fp2, g2, hin2, ht2, hal2, hk2⟩ := hM2
      have hin2' := hin2
      obtain ⟨_, _, _, e3, _⟩ := tree_cells hin2.tr
      have hnd2 : (g2.map (·.1)).Nodup := hin2.tr.nodup
      have ha : l.getD (i - 1).toNat 0 ∈ g2.map (·.1) := by rw [hal2.ids]; exact hlin _ (List.mem_of_getElem? hx1)
      have hb : l.getD i.toNat 0 ∈ g2.map (·.1) := by rw [hal2.ids]; exact hlin _ (List.mem_of_getElem? hx2)
      refine ⟨_, rfl, ⟨by omega, by omega⟩, _, hq, ⟨by omega, by omega⟩, _, hq, ⟨by omega, by omega⟩, _, e3, _, hc1, _, hc2, sem_node hin2.tr ha fun na hna hNa => ⟨H.le.refl _, _, rfl, by decide, ⟨by omega, by omega⟩, ?_⟩⟩
      obtain ⟨sa, la, ha1, ha2, ha3, ha4, _⟩ := known_cell hNa (lv := lv.toNat) (by omega)
      refine ⟨sa, ha3, H.le.refl _, spec.slices_Contains___int_int_ ha4.ints (hK29 _ _ ⟨fun hnot => ?_, fun _ => ⟨⟨by omega, by omega⟩, ⟨by omega, fp2, g2, hin2, ht2, hal2, hk2⟩, by dsimp only; omega⟩⟩)⟩
      have hnin : l.getD i.toNat 0 ∉ la := fun hm => by rw [decide_eq_true hm] at hnot; cases hnot
      refine ⟨⟨by omega, by omega⟩, _, hq, ⟨by omega, by omega⟩, _, hq, ⟨by omega, by omega⟩, _, hc1, _, hc2, ?_⟩
      have hlla : la.length ≤ 1000000 := by
        have h1 := (hk2.many _ _ _ _ hna ha2).1
        have := (mostI_le (lv := ((lv.toNat : Nat) : Int)) hT.links).2
        omega
      refine spec.hnsw_Tree__know hin2 hk2.ok hT.links hna hb lv0 (by omega) ha2 hlla fun w3 fp3 s3 l3 hin3 ht3 hkl => ⟨⟨by omega, by omega⟩, ⟨by omega, fp3, _, hin3, ht2.trans ht3, hal2.trans (Alike.setK hna _ _ _), ?_⟩, by dsimp only; omega⟩
      exact hk2.know hnd2 hna lv0 s3 ha2 hkl hb hne hnin
    · -- the entry
      obtain ⟨fp2, g2, hin2, ht2, hal2, hk2⟩ := hM
      have hn0w := ht2.keep n0 _ hg0 hf10
      obtain ⟨_, _, _, e3, e4⟩ := tree_cells hin2.tr
      have hnd2 : (g2.map (·.1)).Nodup := hin2.tr.nodup
      have fin : ∀ w' fp3 e, In u0 w' fp3 b { T with g := g2, entry := e } → Turn uD fp1 w' fp3 → ((g2 = [] ∧ e = 0) ∨ e ∈ g2.map (·.1)) → K true 0 w' := fun w' fp3 e h1 h2 h3 =>
        hyes w' fp3 { T with g := g2, entry := e } ⟨h1, hturn.trans h2, ⟨hk2, hT.links, h3⟩, by
          show rowsG g2 = _
          rw [hal2.rows hnd1, ← hg1, rowsG_filter], rfl, rfl⟩
      refine ⟨_, rfl, _, e4, _, H.cell?_of hn0w 0, fun hent => ⟨_, rfl, ?_⟩, fun hent => ?_⟩
      · refine st_entry hin2.tr (e := 0) ?_
        obtain ⟨hin3, ht3⟩ := hin2.setEntry 0
        obtain ⟨w3, hw3⟩ : ∃ w3, w.ins b (.cells (treeC { { T with g := g2 } with entry := 0 }).toArray 91 (0, 0)) = w3 := ⟨_, rfl⟩
        rw [hw3] at hin3 ht3 ⊢
        obtain ⟨_, _, _, f3, _⟩ := tree_cells hin3.tr
        have hlen2 : (ptrs g2).length ≤ 1000000 := by
          have := hk2.ok.small
          unfold ptrs
          simp; omega
        refine ⟨_, rfl, _, f3, sorted_keysN hin3.tr.map hlen2 fun s64 u65 ho65 => ?_⟩
        rw [ptrs_ids] at ho65
        change OwnF _ _ _ 1 s64 ((sortI (g2.map (·.1))).flatMap encI) at ho65
        have hin65 := hin3.mono ho65.le
        have hsb : s64.blk ≠ some b := fun e => by
          have := ho65.fresh b e
          exact hin3.known b (by rw [hin3.tr.btag]; simp) this
        have hL := ho65.ints
        have hLn := hL.len
        have hLx := hL.max
        have hLm : ∀ y, y ∈ sortI (g2.map (·.1)) ↔ y ∈ g2.map (·.1) := fun y => (sortI_perm _).mem_iff
        refine ⟨fun k w4 => 0 ≤ k ∧ k ≤ (sortI (g2.map (·.1))).length ∧ (∀ c o, u65 c = some o → c ≠ b → w4 c = some o) ∧ ∃ e, In u0 w4 fp2 b { T with g := g2, entry := e } ∧ Turn uD fp1 w4 fp2 ∧ (k = 0 → e = 0) ∧ (0 < k → e ∈ g2.map (·.1)),
          fun k _ => (sortI (g2.map (·.1))).length - k.toNat, ⟨by omega, by omega, fun c o hc _ => hc, 0, hin65, (ht2.trans ht3).trans (Turn.mono ho65.le), fun _ => rfl, fun h => by omega⟩, ?_⟩
        rintro k w4 ⟨k0, k1, hkp, e, hin4, ht4, hz, hp⟩
        refine ⟨fun hkl => ?_, fun hkg => fin w4 fp2 e hin4 ht4 ?_⟩
        · have hL4 : Ints w4 s64 (sortI (g2.map (·.1))) := Seg.else hL fun g o hg ho => hkp g o ho fun e => hsb (e ▸ hg)
          obtain ⟨q, hq, hcq⟩ := hL4.at k0 hkl
          have hxk : (sortI (g2.map (·.1)))[k.toNat]? = some ((sortI (g2.map (·.1))).getD k.toNat 0) := by
            have : k.toNat < (sortI (g2.map (·.1))).length := by omega
            simp only [List.getD_eq_getElem?_getD, List.getElem?_eq_getElem this, Option.getD_some]
          have hxin := (hLm _).1 (List.mem_of_getElem? hxk)
          refine ⟨q, hq, ⟨k0, hkl⟩, _, hcq, fun K72 hK72 => ?_⟩
          obtain ⟨_, _, _, f3', f4'⟩ := tree_cells hin4.tr
          have yes : K72 true w4 := hK72 _ _ ⟨fun _ => ⟨_, rfl, st_entry hin4.tr ⟨⟨by omega, by omega⟩, ⟨by omega, by omega, fun c o hc hcb => ?_, _, (hin4.setEntry _).1, ht4.trans (hin4.setEntry _).2, fun h => by omega, fun _ => hxin⟩, by dsimp only; omega⟩⟩, fun e => (by cases e)⟩
          · have no : 0 < k → K72 false w4 := fun hkpos => hK72 _ _ ⟨fun e => (by cases e), fun _ => ⟨⟨by omega, by omega⟩, ⟨by omega, by omega, hkp, e, hin4, ht4, fun h => by omega, fun _ => hp hkpos⟩, by dsimp only; omega⟩⟩
            have any : ∀ bb : Bool, 0 < k → K72 bb w4 := fun bb hkpos => by cases bb; exact no hkpos; exact yes
            refine ⟨_, rfl, _, f4', fun he0 => ?_, fun he0 => ?_⟩
            · have r := H.le.refl w4
              simp only [r, yes, and_self]
            · have hkpos : 0 < k := by
                rcases Int.lt_or_eq_of_le k0 with h1 | h1
                · exact h1
                · exact absurd (hz h1.symm) he0
              have hein := hp hkpos
              have r := H.le.refl w4
              have top : ∀ {i : Int} {n : Nd}, NdAt fp2 w4 i n → w4.cell? ((Addr.mk n.p 0 none).add 32) = some (.int .i64 n.top) := fun hN => by
                rw [Addr.add_lit, Nat.zero_add, node_cell hN]; exact nodeC_top hN.kslen
              refine ⟨_, rfl, _, rfl, _, rfl, _, f3', _, f3', _, f4', ?_, ?_⟩
              · refine sem_node hin4.tr hxin fun n1 _ hN1 => ⟨r, _, rfl, ⟨_, top hN1, r, ?_⟩, ?_⟩
                · exact sem_node hin4.tr hein fun n2 _ hN2 => ⟨r, _, rfl, _, top hN2, r, any _ hkpos⟩
                · exact sem_node hin4.tr hein fun n2 _ hN2 => ⟨r, _, rfl, ⟨_, top hN1, r, _, top hN2, r, any _ hkpos⟩, ⟨_, top hN2, r, _, top hN1, r, any _ hkpos⟩⟩
              · refine sem_node hin4.tr hein fun n2 _ hN2 => ⟨r, _, rfl, ?_, ⟨_, top hN2, r, ?_⟩⟩
                · exact sem_node hin4.tr hxin fun n1 _ hN1 => ⟨r, _, rfl, ⟨_, top hN1, r, _, top hN2, r, any _ hkpos⟩, ⟨_, top hN2, r, _, top hN1, r, any _ hkpos⟩⟩
                · exact sem_node hin4.tr hxin fun n1 _ hN1 => ⟨r, _, rfl, _, top hN1, r, any _ hkpos⟩
          · rw [H.ins_other _ _ hcb]; exact hkp c o hc hcb
        · have hkl : k.toNat = (sortI (g2.map (·.1))).length := by
            have : ¬ k < (s64.n : Int) := hkg
            omega
          rcases Nat.eq_zero_or_pos k.toNat with h0 | h0
          · left
            have : g2.map (·.1) = [] := by
              have h2 : (sortI (g2.map (·.1))).length = 0 := by omega
              rw [sortI_len] at h2
              exact List.eq_nil_of_length_eq_zero h2
            exact ⟨by simpa using this, hz (by omega)⟩
          · exact .inr (hp (by omega))
      · refine fin w fp2 T.entry hin2 ht2 (.inr ?_)
        rw [hal2.ids, hids]
        rcases hT.entry with ⟨h1, _⟩ | h1
        · rw [h1] at hgoneT; simp at hgoneT
        · exact ⟨h1, hent⟩
  · -- one row's lists
    refine entT_of hit2 ?_
    obtain ⟨x, hx, rfl⟩ := List.mem_map.1 hp
    have hn1 : getN g1 x.1 = some x.2 := getN_eq hnd1 hx
    have hfn0 : ∀ fp2 : Nat → Option Tg, (∀ c, fp2 c ≠ none → fp1 c ≠ none ∨ uD c = none) → ∀ c o, uD c = some o → fp1 c = none → fp2 c = none := fun fp2 h2 c o h3 h4 => by
      cases e : fp2 c with
      | none => rfl
      | some t => rcases h2 c (by rw [e]; simp) with h5 | h5
                  · exact absurd h4 h5
                  · rw [h3] at h5; cases h5
    have hrD : ∀ c o, uD c = some o → c ≠ r := fun c o hc e => by rw [e, hr] at hc; cases hc
    show ∃ I122 : Int → H → Prop, ∃ I123 : Int → H → Nat, _
    refine ⟨fun lv w => 0 ≤ lv ∧ lv ≤ 31 ∧ ∃ fp2 g2, In u0 w fp2 b { T with g := g2 } ∧ (∀ c o, uD c = some o → fp1 c = none → w c = some o) ∧ (∀ c, fp2 c ≠ none → fp1 c ≠ none ∨ uD c = none) ∧ fp2 r = none ∧ CutS id g1 g2 (dl.map (·.1)) x.1 lv.toNat ∧
        IterAt w r T.m (ptrs g1) (dl ++ [(x.1, .pointer (some ⟨x.2.p, 0, none⟩))]), fun lv _ => (31 - lv).toNat,
      ⟨by omega, by omega, fp', g', hin.aside hfpr hr0 o2, fun c y hc hf => by rw [H.ins_other _ _ (hrD c y hc)]; exact hkeep c y hc hf, hgrow, hfpr, hcut.turn x.1, hit2⟩, ?_⟩
    rintro lv w ⟨lv0, lv1, fp2, g2, hin2, hkeep2, hgrow2, hfpr2, hcut2, hit3⟩
    obtain ⟨n2, hn2, hp2, _, _⟩ := hcut2.al.at' _ _ hn1
    refine ⟨fun hlt => ?_, fun hge => ?_⟩
    · have hN2 := hin2.tr.node hn2
      obtain ⟨s, l, hs1, hs2, hc, ho, htag⟩ := known_cell hN2 (lv := lv.toNat) (by omega)
      rw [hp2] at hc
      have hw0 := hkeep2 n0 _ hg0 hf10
      have hf20 := hfn0 fp2 hgrow2 n0 _ hg0 hf10
      refine ⟨_, rfl, by decide, ⟨by omega, by omega⟩, _, rfl, s, hc, ?_⟩
      refine spec.slices_DeleteFunc___int_int_ ho (del_pred (n0 := n0) (id := id) (T := 3)) (fun c y hc => ?_) (fun c hc => ?_) fun s' w2 ho' hblk he => ?_
      · unfold H.ins at hc
        split at hc
        · rename_i e; rw [e]; cases hc; exact hw0
        · cases hc
      · exact H.ins_other _ _ (fun e => by have := htag c hc; rw [e, hf20] at this; cases this)
      · refine ⟨by decide, ⟨by omega, by omega⟩, ?_⟩
        rw [node_addr, ← hp2]
        have hsp : s.blk ≠ some n2.p := fun e => by have := htag _ e; rw [hN2.tag] at this; cases this
        refine st_known (he _ _ hN2.cell hsp) hN2.kslen (by omega) (cutL id l) ?_
        obtain ⟨fp3, hN3, sh⟩ := hN2.level hin2.known hs1 ho' he fun c e => .inl (by rw [← hblk]; exact e)
        have hin3 := hin2.shift (n' := n2.setK lv.toNat s' (cutL id l)) hn2 rfl hN3 sh
        have hnm : ∀ c, fp2 c = none → ¬ Mine fp2 x.1 c := fun c hc hm => hm.some hc
        obtain ⟨_, _, _, n5⟩ := hin2.ne_node
        refine ⟨⟨by omega, by omega⟩, ⟨by omega, by omega, fp3, _, hin3, fun c y hc hf => sh.keep c y (hkeep2 c y hc hf) (hnm c (hfn0 fp2 hgrow2 c y hc hf)), fun c hc => ?_, ?_, ?_, ?_⟩, by dsimp only; omega⟩
        · rcases sh.grow c hc with h1 | h1
          · exact hgrow2 c h1
          · cases e1 : fp1 c with
            | some t => exact .inl (by simp)
            | none =>
              cases e2 : uD c with
              | none => exact .inr rfl
              | some y => rw [hkeep2 c y e2 e1] at h1; cases h1
        · cases e : fp3 r with
          | none => rfl
          | some t =>
            rcases sh.grow r (by rw [e]; simp) with h1 | h1
            · exact absurd hfpr2 h1
            · obtain ⟨_, _, _, _, _, h2, _⟩ := hit3
              rw [h2] at h1; cases h1
        · have := hcut2.step hnp hn2 hs2 s'
          rw [show (lv + 1).toNat = lv.toNat + 1 by omega]
          exact this
        · have hit4 := hit3
          rw [← hp2] at hit4
          exact hit4.else (fun y hy => sh.keep _ _ hy fun hm => (n5 _ _ hm).2.1 rfl) fun y hy => sh.keep _ _ hy (hnm r hfpr2)
    · have hlv : lv.toNat = 31 := by omega
      rw [hlv] at hcut2
      have hcut3 := hcut2.next (fun n' hn' => (hin2.tr.node hn').knlen) id
      have hlen3 := iter_len hit3
      simp only [List.length_append, List.length_singleton] at hlen3
      have hfin : DelI u0 uD fp1 b T g1 id r (k - 1) w := ⟨_, fp2, g2, hin2, hkeep2, hgrow2, hfpr2, by simpa using hcut3, hit3, by simp only [List.length_append, List.length_singleton]; omega⟩
      refine ⟨⟨_, hfin⟩, ?_⟩
      have := least_le (P := fun k => DelI u0 uD fp1 b T g1 id r k w) hfin
      omega

end Go.Proofs.YtpbelkpfljhjlaaGreatDoor

/- VcRand -/
namespace Go.Proofs.YtpbelkpfljhjlaaGreatDoor
open Go.Shelf

/-- The library's table stands where it was laid. -/
def TabU (u : H) : Prop := ∀ w, Sub u w → Go.Proofs.TabAt 0 Lib.deBruijn64tab w

theorem TabU.mono {u u' : H} (h : TabU u) (hu : u.le u') : TabU u' := fun w hw => h w (hw.mono hu)

theorem ctz_le (x : Nat) (hx : x < 18446744073709551616) : Lib.ctz 64 x ≤ 64 := by
  unfold Lib.ctz
  split
  · exact Nat.le_refl _
  · rename_i h
    obtain ⟨_, _, h2⟩ := Lib.ctzFrom_spec 64 x (Nat.pos_of_ne_zero h) (by simpa using hx)
    omega

theorem bits_u64 (op : BinOp) (x y : Int) : U64 (bits op .u64 x y) := by
  have := wf_bits op .u64 x y
  simp [Lit.wf, IntKind.min, IntKind.max, IntKind.signed, IntKind.bits] at this
  unfold U64
  omega

theorem wrap_u64 (x : Int) : U64 (IntKind.u64.wrap x) := by
  have := wf_wrap .u64 x
  simp [Lit.wf, IntKind.min, IntKind.max, IntKind.signed, IntKind.bits] at this
  unfold U64
  omega

theorem spec.bits_TrailingZeros64 {x : Int} {u : H} {K : Int → H → Prop} (hx : U64 x) (hT : TabU u) (hK : ∀ n : Int, 0 ≤ n → n ≤ 64 → K n u) : C.bits_TrailingZeros64 x u K := by
  intro w hw
  obtain ⟨n, rfl⟩ := Int.eq_ofNat_of_zero_le hx.1
  have hn : n < 18446744073709551616 := by have := hx.2; omega
  have hc := Any7.bits_TrailingZeros64 Tryz.tz64 n hn w fun _ => hT w hw
  change Calls Tryz.prog 116 _ _ _ at hc
  refine hc.mono ?_
  rintro e w' ⟨rfl, rfl⟩
  have := ctz_le n hn
  exact ⟨_, u, rfl, ⟨[.int .i64 (Lib.ctz 64 n : Nat)], .cons (t := .int .i64) _ .nil, rfl, hK _ (by omega) (by omega)⟩, Step.refl hw⟩

theorem spec.rand_Source__Next {src : Nat} {st : Int} {u : H} {K : Int → H → Prop} (h : u src = some (.cells #[.int .u64 st] 168 (0, 0)))
    (hK : ∀ st' z, U64 st' → U64 z → K z (u.ins src (.cells #[.int .u64 st'] 168 (0, 0)))) : C.rand_Source__Next (some ⟨src, 0, none⟩) u K := by
  apply vc.rand_Source__Next
  refine ⟨fun h => (by cases h), fun _ => ⟨_, rfl, st, H.cell?_of h 0, _, rfl, st_one h (by simp [Value.oneCell']) ⟨_, rfl, _, H.cell?_of (H.ins_same _ _ _) 0, by omega, by omega, by omega, ?_⟩⟩⟩
  exact hK _ _ (wrap_u64 _) (bits_u64 _ _ _)

theorem spec.rand_Source__Level {src : Nat} {st : Int} {ub u : H} {K : Int → Int → H → Prop} (h : u src = some (.cells #[.int .u64 st] 168 (0, 0))) (hT : TabU ub) (hub : ub.le u) (hs : ub src = none)
    (hK : ∀ st' lv, U64 st' → 0 ≤ lv → lv ≤ 30 → K lv 0 (u.ins src (.cells #[.int .u64 st'] 168 (0, 0)))) : C.rand_Source__Level (some ⟨src, 0, none⟩) 30 u K := by
  apply vc.rand_Source__Level
  apply vc.rand_Source__may
  refine ⟨fun h => (by cases h), fun _ => ⟨fun h => by omega, fun _ => ⟨fun h => by omega, fun _ => ⟨fun h => absurd rfl h, fun _ => ?_⟩⟩⟩⟩
  refine spec.rand_Source__Next h fun st' z h1 h2 => ?_
  have hle : ub.le (u.ins src (.cells #[.int .u64 st'] 168 (0, 0))) := fun c o hc => by
    rw [H.ins_other _ _ (fun e => by rw [e, hs] at hc; cases hc)]; exact hub c o hc
  refine spec.bits_TrailingZeros64 h2 (hT.mono hle) fun n n0 n1 => ⟨by omega, ?_, ?_⟩
  · have : Int.tdiv n 2 = n / 2 := Int.tdiv_eq_ediv_of_nonneg n0
    rw [this]; exact ⟨by omega, by omega⟩
  · have : Int.tdiv n 2 = n / 2 := Int.tdiv_eq_ediv_of_nonneg n0
    rw [this]
    refine hK _ _ h1 ?_ ?_ <;> split <;> omega

end Go.Proofs.YtpbelkpfljhjlaaGreatDoor

/- VcLay -/
namespace Go.Proofs.YtpbelkpfljhjlaaGreatDoor

theorem getN_append {g : List (Int × Nd)} {id : Int} {nd : Nd} (hid : id ∉ g.map (·.1)) (i : Int) : getN (g ++ [(id, nd)]) i = if i = id then some nd else getN g i := by
  unfold getN
  rw [List.find?_append]
  by_cases hi : i = id
  · subst hi
    have : g.find? (fun x => x.1 == i) = none := by
      have := getN_none.2 hid
      unfold getN at this
      simpa using this
    rw [this, if_pos rfl]
    simp
  · rw [if_neg hi]
    have : [(id, nd)].find? (fun x => x.1 == i) = none := by
      simp [Ne.symm hi]
    rw [this, Option.or_none]

theorem ptrs_append (g : List (Int × Nd)) (id : Int) (nd : Nd) : ptrs (g ++ [(id, nd)]) = ptrs g ++ [(id, .pointer (some ⟨nd.p, 0, none⟩))] := by simp [ptrs]

/-- A fresh row's list: some others, each once, not too many. -/
structure GoodL (links : Int) (ids l : List Int) : Prop where
  sub : ∀ x ∈ l, x ∈ ids
  nodup : l.Nodup
  len : (l.length : Int) ≤ links

theorem GoodL.nil {links : Int} (h : 1 ≤ links) (ids : List Int) : GoodL links ids [] := ⟨fun x hx => (by cases hx), List.nodup_nil, by simp only [List.length_nil]; omega⟩

theorem KOk.add {dim links : Int} {g : List (Int × Nd)} (h : KOk dim links g) (_hl : 1 ≤ links ∧ links ≤ 16) {id : Int} {nd : Nd} (hid : id ∉ g.map (·.1)) (hi : 1 ≤ id ∧ id ≤ 1000000000) (hv : (nd.v.length : Int) = dim ∧ vok nd.v) (ht : nd.top ≤ 30) (hsm : g.length ≤ 512)
    (hk : ∀ (j : Nat) l, nd.kn[j]? = some l → GoodL links (g.map (·.1)) l) : KOk dim links (g ++ [(id, nd)]) := by
  have hids : (g ++ [(id, nd)]).map (·.1) = g.map (·.1) ++ [id] := by simp
  refine ⟨⟨h.ok.dm, fun x hx => ?_, fun x hx => ?_, fun x hx l hl' i hi' => ?_, fun x hx => ?_, by simp; omega⟩, fun i n lv l hn hl' => ?_⟩
  · rcases List.mem_append.1 hx with hx | hx
    · exact h.ok.vec x hx
    · simp at hx; subst hx; exact hv
  · rcases List.mem_append.1 hx with hx | hx
    · exact h.ok.top x hx
    · simp at hx; subst hx; exact ht
  · rw [hids]
    rcases List.mem_append.1 hx with hx | hx
    · exact List.mem_append_left _ (h.ok.known x hx l hl' i hi')
    · simp at hx; subst hx
      obtain ⟨k, hk'⟩ := List.mem_iff_getElem?.1 hl'
      exact List.mem_append_left _ ((hk k l hk').sub i hi')
  · rcases List.mem_append.1 hx with hx | hx
    · exact h.ok.ids x hx
    · simp at hx; subst hx; exact hi
  · rw [getN_append hid] at hn
    by_cases e : i = id
    · rw [if_pos e] at hn; cases hn
      subst e
      have := hk lv l hl'
      refine ⟨?_, this.nodup, fun hm => hid (this.sub i hm)⟩
      have := this.len
      unfold mostI; split <;> omega
    · rw [if_neg e] at hn
      exact h.many i n lv l hn hl'

/-- A fresh node. -/
def nd0 (p : Nat) (sv : Sl) (v : List Int) (top : Nat) : Nd := ⟨p, sv, v, List.replicate 31 ⟨none, 0, 0⟩, List.replicate 31 [], top⟩

theorem In.newNode {u0 u : H} {fp : Nat → Option Tg} {b : Nat} {T : Tr} (h : In u0 u fp b T) {id : Int} (_hid : id ∉ T.g.map (·.1)) {p : Nat} (hp : u p = none) {sv : Sl} {v : List Int} (hv : Ints u sv v) (hvt : ∀ g, sv.blk = some g → fp g = some (.vec id)) (top : Nat) :
    ∃ fp', In u0 (u.ins p (.cells (nodeC (nd0 p sv v top)).toArray 114 (0, 0))) fp' b T ∧ NdAt fp' (u.ins p (.cells (nodeC (nd0 p sv v top)).toArray 114 (0, 0))) id (nd0 p sv v top) ∧
      Turn u fp (u.ins p (.cells (nodeC (nd0 p sv v top)).toArray 114 (0, 0))) fp' := by
  have hfp : fp p = none := h.fresh hp
  let fp' : Nat → Option Tg := fun c => if c = p then some (.node id) else fp c
  have e1 : fp' p = some (.node id) := if_pos rfl
  have e2 : ∀ c, c ≠ p → fp' c = fp c := fun c hc => if_neg hc
  have e3 : ∀ c, fp c ≠ none → fp' c = fp c := fun c hc => e2 c fun e => hc (by rw [e]; exact hfp)
  have hle := H.le_ins (u := u) (b := p) (.cells (nodeC (nd0 p sv v top)).toArray 114 (0, 0)) hp
  refine ⟨fp', ⟨h.tr.keep e3 fun c o hc _ => hle c o hc, h.le.trans hle, fun c hc => ?_, fun c hc => ?_⟩, ?_, ⟨fun c o hc _ => hle c o hc, fun c hc => ?_⟩⟩
  · by_cases e : c = p
    · rw [e]; exact h.le.none hp
    · rw [e2 c e] at hc; exact h.out c hc
  · by_cases e : c = p
    · rw [e, H.ins_same]; simp
    · rw [e2 c e] at hc; rw [H.ins_other _ _ e]; exact h.known c hc
  · refine ⟨H.ins_same _ _ _, e1, hv.mono hle, fun g hg => ?_, by simp [nd0], by simp [nd0], fun lv s l h1 h2 => ?_⟩
    · have := hvt g hg
      rw [e3 g (by rw [this]; simp)]; exact this
    · simp only [nd0, List.getElem?_replicate] at h1 h2
      split at h1
      · cases h1
        rw [if_pos (by assumption)] at h2
        cases h2
        exact ⟨(Own.nil _ _ _).f, fun g hg => by simp [Sl.blk] at hg⟩
      · cases h1
  · by_cases e : c = p
    · rw [e]; exact .inr hp
    · rw [e2 c e] at hc; exact .inl hc

theorem nd0_kn {p : Nat} {sv : Sl} {v : List Int} {top j : Nat} {l : List Int} (h : (nd0 p sv v top).kn[j]? = some l) : l = [] := by
  simp only [nd0, List.getElem?_replicate] at h
  split at h
  · exact (Option.some.inj h).symm
  · cases h

/-- A block of the base's written over. -/
theorem TopAt.remap {B v : H} {M n : Nat} {k : Int} {o : Obj} {S : List Hit} (h : TopAt (B.ins M o) n k v S) (o' : Obj) : TopAt (B.ins M o') n k (v.ins M o') S := by
  obtain ⟨l, ⟨⟨s, h1, h2, h3⟩, h4, h5⟩, h6, h7⟩ := h
  have hnM : n ≠ M := fun e => by rw [e, H.ins_same] at h4; cases h4
  have hsM : s.blk ≠ some M := fun e => by have := h2.fresh M e; rw [H.ins_same] at this; cases this
  refine ⟨l, ⟨⟨s, by rw [H.ins_other _ _ hnM]; exact h1, ⟨h2.own.le fun c y hc hy => ?_, fun c y hc => ?_, fun g hg => ?_⟩, h3⟩, by rw [H.ins_other _ _ hnM] at h4 ⊢; exact h4, h5⟩, h6, h7⟩
  · rw [H.ins_other _ _ (fun e => hsM (by rw [hc, e]))]; exact hy
  · unfold H.ins at hc ⊢
    split
    · rename_i e; rw [if_pos e] at hc; exact hc
    · rename_i e
      rw [if_neg e] at hc
      have := h2.le c y (by rw [H.ins_other _ _ e]; exact hc)
      exact this
  · have := h2.fresh g hg
    have hgM : g ≠ M := fun e => hsM (by rw [hg, e])
    rw [H.ins_other _ _ hgM] at this ⊢; exact this

theorem bLay1 : hasBody Tryz.prog 82 = true := by kernel_rfl

/-- What is known while lay sees: the best of so many, and how many there were. -/
def LayJ (B : H) (n31 n33 n : Nat) (links : Int) (g : List (Int × Nd)) (q : List Int) (W : List Int) (i : Nat) (v : H) : Prop :=
  TopAt ((B.ins n31 (.cells #[.pointer (some ⟨n, 0, none⟩)] 95 (0, 0))).ins n33 (.cells #[.int .i64 i] 3 (0, 0))) n links v ((W.take i).map (hitG g q))

theorem lay_sees {B : H} {fp : Nat → Option Tg} {b n0 n31 n33 n : Nat} {T : Tr} {q W : List Int} (h : TrAt fp B b T) (hl : 1 ≤ T.links ∧ T.links ≤ 16) (hB0 : B n0 = some (.cells #[.pointer (some ⟨b, 0, none⟩)] 30 (0, 0))) (h31 : B n31 = none) (h33 : B n33 = none) (hne : n31 ≠ n33)
    (hW : W.length ≤ 1000000) {i : Nat} {x : Int} {v : H} {K : Bool → H → Prop} (hx : W[i]? = some x) (hj : LayJ B n31 n33 n T.links T.g q W i v)
    (hK : ∀ bb v', LayJ B n31 n33 n T.links T.g q W (i + 1) v' → K bb v') :
    ClY Tryz.prog (.func (.func 82) #[] #[.pointer (some ⟨n31, 0, none⟩), .pointer (some ⟨n33, 0, none⟩), .pointer (some ⟨n0, 0, none⟩)]) #[hitV' (hitG T.g q x)] [.one .bool] v K := by
  have hil : i < W.length := (List.getElem?_eq_some_iff.1 hx).1
  refine .inl ⟨_, _, rfl, bodyOf bLay1, ?_⟩
  refine vc.hnsw_Tree__lay_1 (hitG T.g q x).1 (hiW (hitG T.g q x).2) (loW (hitG T.g q x).2) ⟨n31, 0, none⟩ ⟨n33, 0, none⟩ ⟨n0, 0, none⟩ v K ?_
  have hbase : ∀ (z : Int) {w : H} {S : List Hit}, TopAt ((B.ins n31 (.cells #[.pointer (some ⟨n, 0, none⟩)] 95 (0, 0))).ins n33 (.cells #[.int .i64 z] 3 (0, 0))) n T.links w S →
      B.le w ∧ w n31 = some (.cells #[.pointer (some ⟨n, 0, none⟩)] 95 (0, 0)) ∧ w n33 = some (.cells #[.int .i64 z] 3 (0, 0)) := fun z w S ht => by
    have hle := ht.le
    refine ⟨fun c y hc => hle c y ?_, hle _ _ ?_, hle _ _ (H.ins_same _ _ _)⟩
    · rw [H.ins_other _ _ (fun e => by rw [e, h33] at hc; cases hc), H.ins_other _ _ (fun e => by rw [e, h31] at hc; cases hc)]; exact hc
    · rw [H.ins_other _ _ hne, H.ins_same]
  obtain ⟨_, c31, _⟩ := hbase _ hj
  refine ⟨_, H.cell?_of c31 0, spec.topk_Heap__Offer hj hl.1 (by omega) fun bb w hw => ?_⟩
  obtain ⟨_, _, c33⟩ := hbase _ hw
  refine ⟨_, H.cell?_of c33 0, ⟨by omega, by omega⟩, st_one c33 (by simp [Value.oneCell']) ?_⟩
  have hr := hw.remap (.cells #[.int .i64 ((i : Int) + 1)] 3 (0, 0))
  obtain ⟨hBw, _, c33'⟩ := hbase _ hr
  have hT := h.mono hBw
  obtain ⟨_, t1, _⟩ := tree_cells hT
  refine ⟨_, H.cell?_of c33' 0, _, H.cell?_of (hBw _ _ hB0) 0, _, rfl, _, t1, ⟨by omega, by omega⟩, hK _ _ ?_⟩
  unfold LayJ
  have e : (W.take (i + 1)).map (hitG T.g q) = (W.take i).map (hitG T.g q) ++ [hitG T.g q x] := by
    rw [List.take_add_one, hx]; simp
  rw [e]
  have e2 : ((i + 1 : Nat) : Int) = (i : Int) + 1 := by omega
  rw [e2]
  exact hr.perm (List.perm_append_singleton _ _).symm

/-- The walk, whoever sees saying what he likes. -/
theorem spec.from_any {fp : Nat → Option Tg} {ub u : H} {b : Nat} {T : Tr} {q : List Int} {t : Sl} {at' lv : Int} {see : Value} {K : H → Prop} (hub : ub.le u) (h : TrAt fp ub b T) (hg : GOk T.dim T.g) (hid : at' ∈ T.g.map (·.1)) (ht : QAt ub T.dim t q)
    (l0 : 0 ≤ lv) (l1 : lv < 31) (J : Nat → H → Prop) (hJ : ∀ i v, J i v → ub.le v)
    (hsee : ∀ i x v (K : Bool → H → Prop), (walkF T.g q lv.toNat at')[i]? = some x → J i v → (∀ bb v', J (i + 1) v' → K bb v') → ClY Tryz.prog see #[hitV' (hitG T.g q x)] [.one .bool] v K)
    (h0 : J 0 u) (hK : ∀ i v, i ≤ (walkF T.g q lv.toNat at').length → J i v → K v) : C.hnsw_Tree__from (some ⟨b, 0, none⟩) at' t lv see u K :=
  spec.hnsw_Tree__from hub h hg hid ht l0 l1 J (fun v => ∃ i, i ≤ (walkF T.g q lv.toNat at').length ∧ J i v) hJ
    (fun i x v K' hx hj h1 h2 => hsee i x v K' hx hj fun bb v' hj' => by
      cases bb
      · exact h2 v' ⟨i + 1, (List.getElem?_eq_some_iff.1 hx).1, hj'⟩
      · exact h1 v' hj')
    h0 (fun v hv => hK _ v (Nat.le_refl _) hv) fun v ⟨i, hi, hv⟩ => hK i v hi hv

end Go.Proofs.YtpbelkpfljhjlaaGreatDoor

/- VcLay2 -/
namespace Go.Proofs.YtpbelkpfljhjlaaGreatDoor

/-- A fresh row's lists are found, the levels above lv: what is known then. -/
structure LayA (u0 u7 : H) (fp7 : Nat → Option Tg) (b : Nat) (T : Tr) (id : Int) (p : Nat) (sv : Sl) (v : List Int) (top : Nat) (lv : Int) (w : H) (fp' : Nat → Option Tg) (nd : Nd) : Prop where
  is : In u0 w fp' b T
  node : NdAt fp' w id nd
  turn : Turn u7 fp7 w fp'
  ep : nd.p = p
  es : nd.sv = sv
  ev : nd.v = v
  et : nd.top = top
  good : ∀ (j : Nat) l, nd.kn[j]? = some l → GoodL T.links (T.g.map (·.1)) l ∧ ((j : Int) ≤ lv → l = [])

/-- The others come to know the fresh row, those that it knows below level lv, and some of level lv's. -/
structure LayB (u0 uM : H) (fpM : Nat → Option Tg) (b : Nat) (T : Tr) (g2 : List (Int × Nd)) (id : Int) (nd : Nd) (P : Nat → Int → Prop) (w : H) : Prop where
  ex : ∃ fp' g', In u0 w fp' b { T with g := g' } ∧ Turn uM fpM w fp' ∧ Alike g2 g' ∧ KOk T.dim T.links g' ∧ getN g' id = some nd ∧
    ∀ a n (j : Nat) l, a ≠ id → getN g' a = some n → n.kn[j]? = some l → P j a → id ∉ l

theorem spec.hnsw_Tree__lay {u0 u : H} {fp : Nat → Option Tg} {b : Nat} {T : Tr} {id : Int} {sv : Sl} {v : List Int} {K : H → Prop} (h : In u0 u fp b T) (hT : TOk T) (hTab : TabU u0) (hid : id ∉ T.g.map (·.1)) (hid1 : 1 ≤ id ∧ id ≤ 1000000000)
    (hv : Ints u sv v) (hvt : ∀ g, sv.blk = some g → fp g = some (.vec id)) (hvo : (v.length : Int) = T.dim ∧ vok v) (hsm : T.g.length ≤ 512)
    (hK : ∀ u' fp' T', In u0 u' fp' b T' → Turn u fp u' fp' → TOk T' → rowsG T'.g = rowsG T.g ++ [(id, v)] → T'.dim = T.dim → T'.links = T.links → K u') : C.hnsw_Tree__lay (some ⟨b, 0, none⟩) id sv u K := by
  have hnd := h.tr.nodup
  apply vc.hnsw_Tree__lay
  intro n0 hn0
  have le0 := H.le_ins (u := u) (b := n0) (.cells #[.pointer (some ⟨b, 0, none⟩)] 30 (0, 0)) hn0
  have hfp0 : fp n0 = none := h.fresh hn0
  have h1 := h.mono le0
  have b0 : (u.ins n0 (.cells #[.pointer (some ⟨b, 0, none⟩)] 30 (0, 0))) n0 = some (.cells #[.pointer (some ⟨b, 0, none⟩)] 30 (0, 0)) := H.ins_same _ _ _
  obtain ⟨u1, hu1⟩ : ∃ u1, u.ins n0 (.cells #[.pointer (some ⟨b, 0, none⟩)] 30 (0, 0)) = u1 := ⟨_, rfl⟩
  rw [hu1] at le0 h1 b0 ⊢
  obtain ⟨_, _, c2, _, _⟩ := tree_cells h1.tr
  refine ⟨_, H.cell?_of b0 0, _, rfl, _, c2, spec.rand_Source__Level h1.tr.src hTab h1.le (h1.out _ (by rw [h1.tr.stag]; simp)) fun st' lv0 hst l0 l1 => ?_⟩
  obtain ⟨top, rfl⟩ := Int.eq_ofNat_of_zero_le l0
  obtain ⟨h6, ht6⟩ := h1.setSrc hst
  have b06 := ht6.keep _ _ b0 hfp0
  have hv6 : Ints (u1.ins T.src (.cells #[.int .u64 st'] 168 (0, 0))) sv v := Seg.else (hv.mono le0) fun g o hg ho => by
    rw [H.ins_other _ _ (fun e => by have := hvt g hg; rw [e, h1.tr.stag] at this; cases this)]; exact ho
  obtain ⟨u6, hu6⟩ : ∃ u6, u1.ins T.src (.cells #[.int .u64 st'] 168 (0, 0)) = u6 := ⟨_, rfl⟩
  rw [hu6] at h6 ht6 b06 hv6 ⊢
  intro n7 hn7
  generalize hob : Obj.cells _ 114 (0, 0) = ob
  have hob2 : ob = .cells (nodeC (nd0 n7 sv v top)).toArray 114 (0, 0) := by rw [← hob]; rfl
  subst hob2
  clear hob
  have h6' : In u0 u6 fp b { T with st := st' } := h6
  obtain ⟨fp7, h7, hN7, ht7⟩ := h6'.newNode hid hn7 hv6 hvt top
  have b07 := ht7.keep _ _ b06 hfp0
  have hf70 := ht7.none b06 hfp0
  have turn7 := ((Turn.mono le0).trans ht6).trans ht7
  obtain ⟨u7, hu7⟩ : ∃ u7, u6.ins n7 (.cells (nodeC (nd0 n7 sv v top)).toArray 114 (0, 0)) = u7 := ⟨_, rfl⟩
  rw [hu7] at h7 hN7 ht7 b07 turn7 ⊢
  obtain ⟨T1, hT1⟩ : ∃ T1, { T with st := st' } = T1 := ⟨_, rfl⟩
  rw [hT1] at h7
  have eg : T1.g = T.g := by rw [← hT1]
  have ed : T1.dim = T.dim := by rw [← hT1]
  have el : T1.links = T.links := by rw [← hT1]
  have ee : T1.entry = T.entry := by rw [← hT1]
  have hOk : TOk T1 := ⟨by rw [ed, el, eg]; exact hT.k, by rw [el]; exact hT.links, by rw [eg, ee]; exact hT.entry⟩
  rw [← eg] at hid hsm hnd
  rw [← ed] at hvo
  have fin : ∀ u' fp' T', In u0 u' fp' b T' → Turn u7 fp7 u' fp' → TOk T' → rowsG T'.g = rowsG T1.g ++ [(id, v)] → T'.dim = T1.dim → T'.links = T1.links → K u' := fun u' fp' T' k1 k2 k3 k4 k5 k6 =>
    hK u' fp' T' k1 (turn7.trans k2) k3 (by rw [k4, eg]) (k5.trans ed) (k6.trans el)
  clear hK hT h1 h6 h6' ht6 hv6 hn7 hu1 hu6 hu7 c2 l0 hv hvt le0 b06 ht7 hfp0 hn0 b0
  obtain ⟨_, _, _, d3, d4⟩ := tree_cells h7.tr
  have hgl : ∀ x ∈ T1.g, 1 ≤ x.1 := fun x hx => (hOk.k.ok.ids x hx).1
  have hlinks := hOk.links
  -- putting the fresh row into the map
  have put : ∀ {w : H} {fp' : Nat → Option Tg} {nd : Nd} {K' : H → Prop}, In u0 w fp' b T1 → NdAt fp' w id nd → nd.p = n7 → (∀ w' , In u0 w' fp' b { T1 with g := T1.g ++ [(id, nd)] } → Turn w fp' w' fp' → K' w') →
      SemT Tryz.prog (unit (Instr.mapUpdate 89 (.map (some T1.m)) (.int .i64 id) (.pointer (some ⟨n7, 0, none⟩)))) [] w K' := fun {w fp' nd K'} hin hN hp hk => by
    refine sem_put nodeTy hin.tr.map (by rw [getL_ptrs, getN_none.2 hid]; rfl) fun o hm => ?_
    have hm' : MapAt (w.ins T1.m o) T1.m (ptrs (T1.g ++ [(id, nd)])) := by rw [ptrs_append, hp]; exact hm
    obtain ⟨k1, k2⟩ := hin.setMap hm' fun x hx => by
      rcases List.mem_append.1 hx with hx | hx
      · exact hin.tr.nodes x hx
      · simp at hx; subst hx; exact hN
    exact hk _ k1 k2
  have addOk : ∀ {nd : Nd}, nd.v = v → nd.top = top → (∀ (j : Nat) l, nd.kn[j]? = some l → GoodL T1.links (T1.g.map (·.1)) l) → KOk T1.dim T1.links (T1.g ++ [(id, nd)]) := fun {nd} h1 h2 h3 =>
    hOk.k.add hlinks hid hid1 (by rw [h1]; exact hvo) (by omega) hsm h3
  refine ⟨_, H.cell?_of b07 0, _, rfl, _, d4, fun he => ?_, fun he => ?_⟩
  · -- the first row
    have hg0 : T1.g = [] := by
      rcases hOk.entry with ⟨h1, _⟩ | h1
      · exact h1
      · obtain ⟨x, hx, e⟩ := List.mem_map.1 h1
        have := hgl x hx
        omega
    refine ⟨_, H.cell?_of b07 0, _, rfl, _, d3, put h7 hN7 rfl fun w hw htw => ?_⟩
    refine ⟨_, H.cell?_of (htw.keep _ _ b07 hf70) 0, _, rfl, st_entry hw.tr (e := id) ?_⟩
    obtain ⟨k1, k2⟩ := hw.setEntry id
    refine fin _ _ _ k1 (htw.trans k2) ⟨addOk rfl rfl fun j l hl => by rw [nd0_kn hl]; exact GoodL.nil hlinks.1 _, hlinks, .inr (by simp)⟩ ?_ rfl rfl
    simp [rowsG, nd0]
  · -- the rows that it knows
    have hent : T1.entry ∈ T1.g.map (·.1) := by
      rcases hOk.entry with ⟨_, h1⟩ | h1
      · exact absurd h1 he
      · exact h1
    intro K18 hK18
    have start : ∀ x : Int, x ≤ 30 → -1 ≤ x → K18 x u7 := fun x x1 x0 => hK18 x u7 (by
      refine ⟨fun lv w => -1 ≤ lv ∧ lv ≤ 30 ∧ ∃ fp' nd, LayA u0 u7 fp7 b T1 id n7 sv v top lv w fp' nd, fun lv _ => (lv + 1).toNat,
        ⟨x0, x1, fp7, _, h7, hN7, Turn.refl _ _, rfl, rfl, rfl, rfl, fun j l hl => by rw [nd0_kn hl]; exact ⟨GoodL.nil hlinks.1 _, fun _ => rfl⟩⟩, ?_⟩
      rintro lv w ⟨lv0, lv1, fpw, nd, hA⟩
      have hin := hA.is
      have hNd := hA.node
      have hw0 := hA.turn.keep _ _ b07 hf70
      have hfw0 := hA.turn.none b07 hf70
      obtain ⟨_, w1, _, w3, w4⟩ := tree_cells hin.tr
      have hq : QAt w T1.dim sv v := ⟨by have := hNd.vec; rw [hA.es, hA.ev] at this; exact this, hvo.2, hvo.1⟩
      refine ⟨fun hlv => ?_, fun hlv => ?_⟩
      · refine ⟨_, H.cell?_of hw0 0, _, rfl, _, w1, spec.topk_New (fun hbad => by omega) fun _ _ nt u30 hu30 hnt htop => ?_⟩
        intro n31 hn31
        refine st_new (zs := [.pointer none]) rfl (by simp [Value.oneCell']) ?_
        have hw31 : w n31 = none := hu30.none hn31
        have htop1 := htop.rebase hn31 (.cells [.pointer (some ⟨nt, 0, none⟩)].toArray 95 (0, 0))
        obtain ⟨u32, hu32⟩ : ∃ u32, u30.ins n31 (.cells [.pointer (some ⟨nt, 0, none⟩)].toArray 95 (0, 0)) = u32 := ⟨_, rfl⟩
        rw [hu32] at htop1 ⊢
        intro n33 hn33
        refine st_new (zs := [.int .i64 0]) rfl (by simp [Value.oneCell']) ?_
        have htop2 := htop1.rebase hn33 (.cells [.int .i64 0].toArray 3 (0, 0))
        have h31 : u32 n31 ≠ none := by rw [← hu32, H.ins_same]; simp
        have hne3 : n31 ≠ n33 := fun e => h31 (by rw [e]; exact hn33)
        have hw33 : w n33 = none := by
          have := htop1.le.none hn33
          rw [H.ins_other _ _ (Ne.symm hne3)] at this; exact this
        obtain ⟨u34, hu34⟩ : ∃ u34, u32.ins n33 (.cells [.int .i64 0].toArray 3 (0, 0)) = u34 := ⟨_, rfl⟩
        rw [hu34] at htop2 ⊢
        have hbase : ∀ {o1 o2 : Obj} {z : H}, ((w.ins n31 o1).ins n33 o2).le z → w.le z := fun hle c y hc => hle c y (by
          rw [H.ins_other _ _ (fun e => by rw [e, hw33] at hc; cases hc), H.ins_other _ _ (fun e => by rw [e, hw31] at hc; cases hc)]; exact hc)
        have hw34 : w.le u34 := hbase htop2.le
        obtain ⟨at', hat⟩ : ∃ at', startF T1.g v T1.entry lv.toNat = at' := ⟨_, rfl⟩
        have hatin : at' ∈ T1.g.map (·.1) := by rw [← hat]; exact startF_in hOk.k.ok hent _
        refine ⟨_, H.cell?_of (hw34 _ _ hw0) 0, _, H.cell?_of (hw34 _ _ hw0) 0, spec.hnsw_Tree__start (hin.tr.mono hw34) hOk.k.ok hent (hq.mono hw34) hlv ⟨H.le.refl _, ?_⟩⟩
        rw [hat]
        obtain ⟨W, hW⟩ : ∃ W, walkF T1.g v lv.toNat at' = W := ⟨_, rfl⟩
        have hMet := Met.one (hitG T1.g v) (ids := T1.g.map (·.1)) (hitG_id T1.g v) hatin
        have hWn : W.Nodup ∧ (∀ x ∈ W, x ∈ T1.g.map (·.1)) := by
          rw [← hW]
          exact ⟨(expl_nodup (hitG T1.g v) (nbG T1.g lv.toNat) (hitG_id T1.g v) (hOk.k.ok.nb _) _ _ _ hMet).1, expl_in (hitG T1.g v) (nbG T1.g lv.toNat) (hitG_id T1.g v) (hOk.k.ok.nb _) _ _ _ hMet⟩
        have hWl : W.length ≤ 1000000 := by have := nodup_len hWn.1 hWn.2; simp at this; omega
        have hlay : LayJ w n31 n33 nt T1.links T1.g v W 0 u34 := htop2
        refine spec.from_any hw34 hin.tr hOk.k.ok hatin hq hlv (by omega) (fun i z => LayJ w n31 n33 nt T1.links T1.g v W i z) (fun i z hz => hbase (TopAt.le hz))
          (fun i x z K' hx hj hk => lay_sees hin.tr hlinks hw0 hw31 hw33 hne3 hWl (by rw [← hW]; exact hx) hj hk) hlay fun i z hiW hJ => ?_
        rw [hW] at hiW
        have hwz : w.le z := hbase (TopAt.le hJ)
        have hz31 : z n31 = some (.cells #[.pointer (some ⟨nt, 0, none⟩)] 95 (0, 0)) := (TopAt.le hJ) _ _ (by rw [H.ins_other _ _ hne3, H.ins_same])
        refine ⟨_, H.cell?_of hz31 0, spec.topk_Heap__List hJ fun s41 u42 ho42 => ?_⟩
        -- the hits that are kept
        obtain ⟨L, hL⟩ : ∃ L, topk T1.links.toNat ((W.take i).map (hitG T1.g v)) = L := ⟨_, rfl⟩
        rw [hL] at ho42
        have hLp : ∃ M : List Hit, (sortH ((W.take i).map (hitG T1.g v))).take T1.links.toNat = L := ⟨[], hL⟩
        have hLids : (L.map (·.1)).Sublist ((sortH ((W.take i).map (hitG T1.g v))).map (·.1)) := by rw [← hL]; exact (List.take_sublist _ _).map _
        have hperm := (sortH_perm ((W.take i).map (hitG T1.g v))).map (·.1)
        have hWm : ((W.take i).map (hitG T1.g v)).map (·.1) = W.take i := by
          rw [List.map_map]
          have : ((fun x : Hit => x.1) ∘ hitG T1.g v) = fun x => x := by funext x; rfl
          rw [this]; exact List.map_id' _
        rw [hWm] at hperm
        have hgood : ∀ m, GoodL T1.links (T1.g.map (·.1)) ((L.take m).map (·.1)) := fun m => by
          have hsub : ((L.take m).map (·.1)).Sublist (L.map (·.1)) := (List.take_sublist _ _).map _
          refine ⟨fun x hx => hWn.2 x (List.mem_of_mem_take ((hperm.mem_iff (a := x)).1 (hLids.mem (hsub.mem hx)))), (hperm.nodup_iff.2 (hWn.1.sublist (List.take_sublist _ _))).sublist (hsub.trans hLids), ?_⟩
          have : L.length ≤ T1.links.toNat := by rw [← hL, topk_len]; exact Nat.min_le_left _ _
          simp only [List.length_map, List.length_take]
          omega
        have hLl : L.length ≤ 16 := by
          have : L.length ≤ T1.links.toNat := by rw [← hL, topk_len]; exact Nat.min_le_left _ _
          omega
        have hw42 : w.le u42 := hwz.trans ho42.le
        have hs41f : ∀ g, s41.blk = some g → fpw g = none ∧ ∃ o, u42 g = some o := fun g hg => by
          have h1 := ho42.fresh g hg
          exact ⟨hin.fresh (hwz.none h1), Option.ne_none_iff_exists'.1 (own_known' ho42 hg)⟩
        have hsn41 := ho42.hts.len
        refine ⟨fun k x => 0 ≤ k ∧ k ≤ L.length ∧ ∃ fp' nd', In u0 x fp' b T1 ∧ NdAt fp' x id nd' ∧ Turn u42 fpw x fp' ∧ nd'.p = n7 ∧ nd'.sv = sv ∧ nd'.v = v ∧ nd'.top = top ∧
            ∀ (j : Nat) l, nd'.kn[j]? = some l → (j = lv.toNat ∧ l = (L.take k.toNat).map (·.1)) ∨ (j ≠ lv.toNat ∧ nd.kn[j]? = some l), fun k _ => L.length - k.toNat,
          ⟨by omega, by omega, fpw, nd, hin.mono hw42, hNd.keep (fun _ _ => rfl) fun c o ho _ => hw42 c o ho, Turn.refl _ _, hA.ep, hA.es, hA.ev, hA.et, fun j l hl => ?_⟩, ?_⟩
        · by_cases e : j = lv.toNat
          · have := (hA.good j l hl).2 (by omega)
            exact .inl ⟨e, by simpa using this⟩
          · exact .inr ⟨e, hl⟩
        rintro k x ⟨k0, k1, fp', nd', hin', hN', ht', e1, e2, e3, e4, hkn⟩
        refine ⟨fun hkl => ?_, fun hkg => ?_⟩
        · have hx41 : Hts x s41 L := Seg.else ho42.hts fun g o hg ho => ht'.keep g o ho (hs41f g hg).1
          obtain ⟨q41, hq41, y, hy, y0, y1, y2⟩ := hx41.at k0 hkl
          obtain ⟨s, l, hs1, hs2, hc, ho, htag⟩ := known_cell hN' (lv := lv.toNat) (by omega)
          have hl : l = (L.take k.toNat).map (·.1) := by
            rcases hkn _ l hs2 with ⟨_, h1⟩ | ⟨h1, _⟩
            · exact h1
            · exact absurd rfl h1
          rw [e1] at hc
          refine ⟨q41, hq41, ⟨k0, hkl⟩, _, y0, _, y1, _, y2, by decide, ⟨hlv, by omega⟩, s, hc, ?_⟩
          have hll := ho.ints.len
          have hlk : l.length ≤ 16 := by rw [hl]; simp; omega
          refine sem_push tInts (build_int y.1) (by decide) rfl (by simp [Value.oneCell']) ho (by omega) (by omega) fun s' x2 ho' hn' he' hb' _ => ⟨by decide, ⟨hlv, by omega⟩, ?_⟩
          have hfl : l.flatMap encI ++ [.int .i64 y.1] = (l ++ [y.1]).flatMap encI := by simp [encI]
          rw [hfl] at ho'
          rw [node_addr, ← e1]
          have hsp : s.blk ≠ some nd'.p := fun e => by have := htag _ e; rw [hN'.tag] at this; cases this
          refine st_known (he' _ _ hN'.cell hsp) hN'.kslen (by omega) (l ++ [y.1]) ?_
          obtain ⟨fp3, hN3, sh⟩ := hN'.level hin'.known hs1 ho' he' hb'
          have hin3 := hin'.shiftOut hid sh
          refine ⟨⟨by omega, by omega⟩, ⟨by omega, by omega, fp3, _, hin3, hN3, ht'.trans sh.turn, rfl, e2, e3, e4, fun j l2 hl2 => ?_⟩, by dsimp only; omega⟩
          rcases setK_kn hl2 with ⟨h1, h2⟩ | ⟨h1, h2⟩
          · refine .inl ⟨h1, ?_⟩
            rw [h2, hl, show (k + 1).toNat = k.toNat + 1 by omega, List.take_add_one, hy]
            simp
          · rcases hkn j l2 h2 with ⟨h3, _⟩ | ⟨_, h3⟩
            · exact absurd h3 h1
            · exact .inr ⟨h1, h3⟩
        · have hkL : k.toNat = L.length := by
            have : ¬ k < (s41.n : Int) := hkg
            omega
          refine ⟨⟨by omega, by omega⟩, ⟨by omega, by omega, fp', nd', ⟨hin', hN', (hA.turn.trans (Turn.mono hw42)).trans ht', e1, e2, e3, e4, fun j l hl => ?_⟩⟩, by dsimp only; omega⟩
          rcases hkn j l hl with ⟨h1, h2⟩ | ⟨h1, h2⟩
          · rw [h2]
            exact ⟨hgood _, fun hj => by omega⟩
          · obtain ⟨h3, h4⟩ := hA.good j l h2
            exact ⟨h3, fun hj => h4 (by omega)⟩
      · -- into the map; the others come to know it
        refine ⟨_, H.cell?_of hw0 0, _, rfl, _, w3, put hin hNd hA.ep fun wM hM htM => ?_⟩
        have hg2 : KOk T1.dim T1.links (T1.g ++ [(id, nd)]) := addOk hA.ev hA.et fun j l hl => (hA.good j l hl).1
        have hm0 := htM.keep _ _ hw0 hfw0
        have hgetid : getN (T1.g ++ [(id, nd)]) id = some nd := by rw [getN_append hid, if_pos rfl]
        have hnd2 : ((T1.g ++ [(id, nd)]).map (·.1)).Nodup := hM.tr.nodup
        have hrow2 : rowsG (T1.g ++ [(id, nd)]) = rowsG T1.g ++ [(id, v)] := by simp [rowsG, hA.ev]
        have hB0 : LayB u0 wM fpw b T1 (T1.g ++ [(id, nd)]) id nd (fun j _ => 0 ≤ j) wM := ⟨fpw, _, hM, Turn.refl _ _, Alike.refl _, hg2, hgetid, fun a n j l hne hn hl _ => by
          rw [getN_append hid, if_neg hne] at hn
          exact fun hm => hid (hOk.k.ok.known _ (getN_mem hn) l (List.mem_of_getElem? hl) id hm)⟩
        refine ⟨fun j z => 0 ≤ j ∧ j ≤ 31 ∧ LayB u0 wM fpw b T1 (T1.g ++ [(id, nd)]) id nd (fun i _ => j.toNat ≤ i) z, fun j _ => (31 - j).toNat, ⟨by omega, by omega, hB0⟩, ?_⟩
        rintro j z ⟨j0, j1, hB⟩
        refine ⟨fun hj => ?_, fun hj => ?_⟩
        · obtain ⟨fp', g', hin', ht', hal', hk', hgid, hfree⟩ := hB
          obtain ⟨s, l, hs1, hs2, hc, ho, htag⟩ := known_cell (hin'.tr.node hgid) (lv := j.toNat) (by omega)
          have hep := hA.ep
          rw [hep] at hc
          have hgl := (hA.good _ l hs2).1
          have hll := ho.ints.len
          have hlm := ho.ints.max
          refine ⟨by decide, ⟨j0, hj⟩, s, hc, ?_⟩
          refine ⟨fun k y => 0 ≤ k ∧ k ≤ l.length ∧ LayB u0 wM fpw b T1 (T1.g ++ [(id, nd)]) id nd (fun i a => j.toNat < i ∨ (i = j.toNat ∧ a ∉ l.take k.toNat)) y, fun k _ => l.length - k.toNat,
            ⟨by omega, by omega, fp', g', hin', ht', hal', hk', hgid, fun a n i l2 h1 h2 h3 h4 => hfree a n i l2 h1 h2 h3 (by rcases h4 with h4 | ⟨h4, _⟩ <;> omega)⟩, ?_⟩
          rintro k y ⟨k0, k1, hB2⟩
          refine ⟨fun hkl => ?_, fun hkg => ?_⟩
          · obtain ⟨fp2, g3, hin2, ht2, hal2, hk2, hgid2, hfree2⟩ := hB2
            have hN2 := hin2.tr.node hgid2
            obtain ⟨s2, l2, e1, e2, _, ho2, _⟩ := known_cell hN2 (lv := j.toNat) (by omega)
            rw [hs1] at e1; cases e1
            rw [hs2] at e2; cases e2
            obtain ⟨q, hq', hcq⟩ := ho2.ints.at k0 hkl
            have hxk : l[k.toNat]? = some (l.getD k.toNat 0) := getD_some (by omega)
            have hxin := hgl.sub _ (List.mem_of_getElem? hxk)
            have hxne : l.getD k.toNat 0 ≠ id := fun e => hid (e ▸ hxin)
            have hids3 : g3.map (·.1) = T1.g.map (·.1) ++ [id] := by rw [hal2.ids]; simp
            obtain ⟨na, hna⟩ := getN_some (g := g3) (id := l.getD k.toNat 0) (by rw [hids3]; exact List.mem_append_left _ hxin)
            have hNa := hin2.tr.node hna
            obtain ⟨sa, la, a1, a2, _, _, _⟩ := known_cell hNa (lv := j.toNat) (by omega)
            have hlla : la.length ≤ 1000000 := by
              have h1 := (hk2.many _ _ _ _ hna a2).1
              have := (mostI_le (lv := ((j.toNat : Nat) : Int)) hlinks).2
              omega
            have hntk : l.getD k.toNat 0 ∉ l.take k.toNat := fun hm => by
              obtain ⟨i, hi, e⟩ := List.mem_iff_getElem.1 hm
              simp only [List.length_take] at hi
              have hi2 : i < l.length := by omega
              have hk3 : k.toNat < l.length := by omega
              have := List.pairwise_iff_getElem.1 hgl.nodup i k.toNat hi2 hk3 (by omega)
              rw [List.getElem_take, List.getD_eq_getElem?_getD, List.getElem?_eq_getElem hk3] at e
              exact this e
            have hfr := hfree2 _ na j.toNat la hxne hna a2 (.inr ⟨rfl, hntk⟩)
            have hidg : id ∈ g3.map (·.1) := by rw [hids3]; simp
            refine ⟨q, hq', ⟨k0, hkl⟩, _, hcq, _, H.cell?_of (ht2.keep _ _ hm0 hfw0) 0, ?_⟩
            refine spec.hnsw_Tree__know hin2 hk2.ok hlinks hna hidg j0 (by omega) a2 hlla fun w5 fp5 s5 l5 hin5 ht5 hkl5 => ⟨⟨by omega, by omega⟩, ⟨by omega, by omega, fp5, _, hin5, ht2.trans ht5, hal2.trans (Alike.setK hna _ _ _), ?_, ?_, ?_⟩, by dsimp only; omega⟩
            · exact hk2.know hin2.tr.nodup hna j0 s5 a2 hkl5 hidg (Ne.symm hxne) hfr
            · rw [getN_setN, if_neg (Ne.symm hxne)]; exact hgid2
            · intro a n i l6 h1 h2 h3 h4
              rw [getN_setN] at h2
              by_cases e : a = l.getD k.toNat 0
              · rw [if_pos e] at h2
                rw [e, hna] at h2
                cases h2
                have hlt : j.toNat < i := by
                  rcases h4 with h4 | ⟨_, h4⟩
                  · exact h4
                  · exfalso
                    apply h4
                    rw [e, show (k + 1).toNat = k.toNat + 1 by omega, List.take_add_one, hxk]
                    simp
                rcases setK_kn h3 with ⟨h5, _⟩ | ⟨_, h5⟩
                · omega
                · exact hfree2 _ na i l6 (by rw [← e]; exact h1) hna h5 (.inl hlt)
              · rw [if_neg e] at h2
                refine hfree2 a n i l6 h1 h2 h3 ?_
                rcases h4 with h4 | ⟨h4, h5⟩
                · exact .inl h4
                · refine .inr ⟨h4, fun hm => h5 ?_⟩
                  rw [show (k + 1).toNat = k.toNat + 1 by omega, List.take_add_one]
                  exact List.mem_append_left _ hm
          · obtain ⟨fp2, g3, hin2, ht2, hal2, hk2, hgid2, hfree2⟩ := hB2
            exact ⟨⟨by omega, by omega⟩, ⟨by omega, by omega, fp2, g3, hin2, ht2, hal2, hk2, hgid2, fun a n i l6 h1 h2 h3 h4 => hfree2 a n i l6 h1 h2 h3 (.inl (by omega))⟩, by dsimp only; omega⟩
        · obtain ⟨fp', g', hin', ht', hal', hk', hgid, _⟩ := hB
          have hz0 := ht'.keep _ _ hm0 hfw0
          obtain ⟨_, _, _, z3, z4⟩ := tree_cells hin'.tr
          have hent' : T1.entry ∈ g'.map (·.1) := by rw [hal'.ids]; simp only [List.map_append]; exact List.mem_append_left _ hent
          have hidg : id ∈ g'.map (·.1) := List.mem_map.2 ⟨_, getN_mem hgid, rfl⟩
          have hrows : rowsG g' = rowsG T1.g ++ [(id, v)] := by rw [hal'.rows hnd2]; exact hrow2
          have hturn : Turn u7 fp7 z fp' := (hA.turn.trans htM).trans ht'
          refine ⟨_, H.cell?_of hz0 0, _, rfl, _, z3, _, H.cell?_of hz0 0, _, rfl, _, z4, sem_node hin'.tr hent' fun n _ hN => ⟨_, rfl, n.top, ?_, fun _ => ⟨_, H.cell?_of hz0 0, _, rfl, st_entry hin'.tr (e := id) ?_⟩, fun _ => ?_⟩⟩
          · rw [Addr.add_lit, Nat.zero_add, node_cell hN]; exact nodeC_top hN.kslen
          · obtain ⟨k1, k2⟩ := hin'.setEntry id
            exact fin _ _ _ k1 (hturn.trans k2) ⟨hk', hlinks, .inr hidg⟩ hrows rfl rfl
          · exact fin _ _ _ hin' hturn ⟨hk', hlinks, .inr hent'⟩ hrows rfl rfl)
    obtain ⟨ne, hne⟩ := getN_some hent
    refine ⟨_, H.cell?_of b07 0, _, rfl, _, d3, _, H.cell?_of b07 0, _, rfl, _, d4, sem_node h7.tr hent fun n hn hN => ⟨_, rfl, n.top, ?_, ?_⟩⟩
    · rw [Addr.add_lit, Nat.zero_add, node_cell hN]; exact nodeC_top hN.kslen
    · have := hOk.k.ok.top _ (getN_mem hn)
      simp only at this
      exact start _ (by split <;> omega) (by split <;> omega)

end Go.Proofs.YtpbelkpfljhjlaaGreatDoor

/- VcHnsw -/
namespace Go.Proofs.YtpbelkpfljhjlaaGreatDoor

theorem ptrs_len (g : List (Int × Nd)) : (ptrs g).length = g.length := by simp [ptrs]

theorem spec.hnsw_Tree__Len {fp : Nat → Option Tg} {u : H} {b : Nat} {T : Tr} {K : Int → H → Prop} (h : TrAt fp u b T) (hK : K T.g.length u) : C.hnsw_Tree__Len (some ⟨b, 0, none⟩) u K := by
  obtain ⟨_, _, _, c3, _⟩ := tree_cells h
  apply vc.hnsw_Tree__Len
  refine ⟨fun e => (by cases e), fun _ => ⟨_, rfl, _, c3, sem_maplen nodeTy h.map ?_⟩⟩
  rw [ptrs_len]; exact hK

/-- A block of a fresh row's vector comes to be the tree's. -/
theorem In.tagVec {u0 u : H} {fp : Nat → Option Tg} {b : Nat} {T : Tr} (h : In u0 u fp b T) {s : Sl} (hs : ∀ g, s.blk = some g → fp g = none ∧ u0 g = none ∧ u g ≠ none) (id : Int) :
    ∃ fp', In u0 u fp' b T ∧ (∀ g, s.blk = some g → fp' g = some (.vec id)) ∧ (∀ c, s.blk ≠ some c → fp' c = fp c) := by
  let fp' : Nat → Option Tg := fun c => open Classical in if s.blk = some c then some (.vec id) else fp c
  have e1 : ∀ c, s.blk = some c → fp' c = some (.vec id) := fun c hc => if_pos hc
  have e2 : ∀ c, s.blk ≠ some c → fp' c = fp c := fun c hc => if_neg hc
  have e3 : ∀ c, fp c ≠ none → fp' c = fp c := fun c hc => e2 c fun e => hc (hs c e).1
  refine ⟨fp', ⟨h.tr.keep e3 fun _ _ ho _ => ho, h.le, fun c hc => ?_, fun c hc => ?_⟩, e1, e2⟩
  · by_cases e : s.blk = some c
    · exact (hs c e).2.1
    · rw [e2 c e] at hc; exact h.out c hc
  · by_cases e : s.blk = some c
    · exact (hs c e).2.2
    · rw [e2 c e] at hc; exact h.known c hc

/-- What a put leaves. -/
structure PutRes (u0 u : H) (fp : Nat → Option Tg) (b : Nat) (T : Tr) (id : Int) (v : List Int) (u' : H) (fp' : Nat → Option Tg) (T' : Tr) : Prop where
  is : In u0 u' fp' b T'
  turn : Turn u fp u' fp'
  ok : TOk T'
  rows : (rowsG T'.g).Perm ((id, v) :: (rowsG T.g).filter fun x => x.1 != id)
  dim : T'.dim = T.dim
  links : T'.links = T.links

theorem rowsG_ids (g : List (Int × Nd)) : (rowsG g).map (·.1) = g.map (·.1) := by unfold rowsG; rw [List.map_map]; rfl

theorem spec.hnsw_Tree__Put {u0 u : H} {fp : Nat → Option Tg} {b : Nat} {T : Tr} {id : Int} {t : Sl} {q : List Int} {K : Bool → Int → H → Prop} (h : In u0 u fp b T) (hT : TOk T) (hTab : TabU u0) (ht : Ints u t q) (hts : ∀ g, t.blk = some g → fp g = none)
    (hbad : mayErr id q T.dim (decide (id ∈ T.g.map (·.1))) T.g.length ≠ 0 → K false (mayErr id q T.dim (decide (id ∈ T.g.map (·.1))) T.g.length) u)
    (hok : mayErr id q T.dim (decide (id ∈ T.g.map (·.1))) T.g.length = 0 → ∀ u' fp' T', PutRes u0 u fp b T id q u' fp' T' → K (decide (id ∉ T.g.map (·.1))) 0 u') : C.hnsw_Tree__Put (some ⟨b, 0, none⟩) id t u K := by
  obtain ⟨c0, _, _, c3, _⟩ := tree_cells h.tr
  apply vc.hnsw_Tree__Put
  refine ⟨fun e => (by cases e), fun _ => ⟨_, rfl, _, c3, ?_⟩⟩
  refine sem_get2 nodeTy h.tr.map (ct := .ptr) ((getN T.g id).map fun n => (⟨n.p, 0, none⟩ : Addr)) (by rw [getL_ptrs]; cases getN T.g id <;> rfl) ?_
  have hsome : (getL (ptrs T.g) id).isSome = decide (id ∈ T.g.map (·.1)) := by
    rw [getL_ptrs, Option.isSome_map]
    cases e : getN T.g id with
    | none => rw [decide_eq_false (getN_none.1 e)]; rfl
    | some n => rw [decide_eq_true (List.mem_map.2 ⟨_, getN_mem e, rfl⟩)]; rfl
  rw [hsome]
  refine ⟨_, rfl, _, rfl, _, c0, _, c3, sem_maplen nodeTy h.tr.map ⟨H.le.refl u, spec.flat_May ht ?_⟩⟩
  rw [ptrs_len]
  refine ⟨fun hne => hbad hne, fun he => ?_⟩
  have hok := hok he
  have hids : ¬ (id < 1 ∨ 1000000000 < id) ∧ vcheck q T.dim = 0 ∧ ¬ (decide (id ∈ T.g.map (·.1)) = false ∧ 512 ≤ (T.g.length : Int)) := by
    unfold mayErr at he
    by_cases h1 : id < 1 ∨ 1000000000 < id
    · rw [if_pos h1] at he; cases he
    · rw [if_neg h1] at he
      by_cases h2 : vcheck q T.dim ≠ 0
      · rw [if_pos h2] at he; exact absurd he h2
      · rw [if_neg h2] at he
        by_cases h3 : decide (id ∈ T.g.map (·.1)) = false ∧ 512 ≤ (T.g.length : Int)
        · rw [if_pos h3] at he; cases he
        · exact ⟨h1, by simpa using h2, h3⟩
  obtain ⟨d1, d2, d3, d4⟩ := vcheck_ok hids.2.1
  -- behind the deletion
  have lay : ∀ (u1 : H) (fp1 : Nat → Option Tg) (T1 : Tr), In u0 u1 fp1 b T1 → Turn u fp u1 fp1 → TOk T1 → rowsG T1.g = (rowsG T.g).filter (fun x => x.1 != id) → T1.dim = T.dim → T1.links = T.links →
      C.slices_Clone___int_int_ t u1 fun s16 u17 => H.le u1 u17 ∧ C.hnsw_Tree__lay (some ⟨b, 0, none⟩) id s16 u17 fun u18 => K (!decide (decide (id ∈ T.g.map (·.1)) = true)) 0 u18 := by
    intro u1 fp1 T1 h1 ht1 hT1 hr1 hd1 hl1
    have hi1 : Ints u1 t q := Seg.else ht fun g o hg ho => ht1.keep g o ho (hts g hg)
    refine spec.slices_Clone___int_int_ hi1 (by have := hi1.len; omega) fun s16 u17 ho16 _ => ⟨ho16.le, ?_⟩
    have h17 := h1.mono ho16.le
    obtain ⟨fp2, h2, hv2, hk2⟩ := h17.tagVec (s := s16) (fun g hg => ⟨h1.fresh (ho16.fresh g hg), h1.le.none (ho16.fresh g hg), own_known' ho16 hg⟩) id
    have hnin : id ∉ T1.g.map (·.1) := fun hm => by
      rw [← rowsG_ids, hr1] at hm
      obtain ⟨x, hx, e⟩ := List.mem_map.1 hm
      have := (List.mem_filter.1 hx).2
      simp [e] at this
    have hlen : T1.g.length ≤ 512 := by
      have e1 : T1.g.length = ((rowsG T.g).filter fun x => x.1 != id).length := by rw [← hr1]; simp [rowsG]
      by_cases hin : id ∈ T.g.map (·.1)
      · have : ((rowsG T.g).filter fun x => x.1 != id).length < (rowsG T.g).length := by
          rw [List.length_filter_lt_length_iff_exists]
          rw [← rowsG_ids] at hin
          obtain ⟨x, hx, e⟩ := List.mem_map.1 hin
          exact ⟨x, hx, by simp [e]⟩
        have h5 : (rowsG T.g).length = T.g.length := by simp [rowsG]
        have := hT.k.ok.small
        omega
      · have h4 : ¬ 512 ≤ (T.g.length : Int) := fun h5 => hids.2.2 ⟨decide_eq_false hin, h5⟩
        have h5 : (rowsG T.g).length = T.g.length := by simp [rowsG]
        have := List.length_filter_le (fun x : Int × List Int => x.1 != id) (rowsG T.g)
        omega
    refine spec.hnsw_Tree__lay h2 hT1 hTab hnin (by omega) ho16.ints hv2 ⟨by rw [hd1]; exact d3, d4⟩ hlen fun u18 fp3 T3 h3 ht3 hT3 hr3 hd3 hl3 => ?_
    have hb : (!decide (decide (id ∈ T.g.map (·.1)) = true)) = decide (id ∉ T.g.map (·.1)) := by
      by_cases hin : id ∈ T.g.map (·.1) <;> simp [hin]
    rw [hb]
    refine hok u18 fp3 T3 ⟨h3, ?_, hT3, ?_, hd3.trans hd1, hl3.trans hl1⟩
    · have gone : ∀ c, u1 c = none → fp c ≠ none ∨ u c = none := fun c hc => by
        cases e : fp c with
        | some x => exact .inl (by simp)
        | none =>
          cases e2 : u c with
          | none => exact .inr rfl
          | some o => rw [ht1.keep c o e2 e] at hc; cases hc
      refine ⟨fun c o hc hf => ?_, fun c hc => ?_⟩
      · have h5 := ht1.keep c o hc hf
        have e : s16.blk ≠ some c := fun e => by have := ho16.fresh c e; rw [h5] at this; cases this
        exact ht3.keep c o (ho16.le c o h5) (by rw [hk2 c e]; exact ht1.none hc hf)
      · rcases ht3.grow c hc with h5 | h5
        · by_cases e : s16.blk = some c
          · exact gone c (ho16.fresh c e)
          · rw [hk2 c e] at h5; exact ht1.grow c h5
        · exact gone c (ho16.le.none h5)
    · rw [hr3, hr1]
      exact List.perm_append_singleton _ _
  refine spec.hnsw_Tree__Delete h hT (fun hno u1 hu1 => ?_) fun n hn u1 fp1 T1 hres => ?_
  · refine lay u1 fp T (h.mono hu1) (Turn.mono hu1) hT ?_ rfl rfl
    refine (List.filter_eq_self.2 fun x hx => ?_).symm
    have : x.1 ≠ id := fun e => getN_none.1 hno (by rw [← rowsG_ids]; exact List.mem_map.2 ⟨x, hx, e⟩)
    simpa using this
  · exact lay u1 fp1 T1 hres.is hres.turn hres.ok hres.rows hres.dim hres.links

end Go.Proofs.YtpbelkpfljhjlaaGreatDoor

/- VcHnsw2 -/
namespace Go.Proofs.YtpbelkpfljhjlaaGreatDoor

theorem spec.hnsw_Tree__Rows {u0 u : H} {fp : Nat → Option Tg} {b : Nat} {T : Tr} {K : Sl → H → Prop} (h : In u0 u fp b T) (hT : TOk T)
    (hK : ∀ s ls u', RowsO u u' s ls → (ls.map Rw.pr).Perm (rowsG T.g) → (ls.Pairwise fun a b => a.id ≤ b.id) → K s u') : C.hnsw_Tree__Rows (some ⟨b, 0, none⟩) u K := by
  obtain ⟨_, _, _, c3, _⟩ := tree_cells h.tr
  have hnd := h.tr.nodup
  have hsm := hT.k.ok.small
  apply vc.hnsw_Tree__Rows
  refine ⟨fun e => (by cases e), fun _ => ⟨_, rfl, _, c3, sem_range nodeTy h.tr.map fun r o hr hit0 => ?_⟩⟩
  have hle := H.le_ins (u := u) (b := r) o hr
  -- the rows of some entries
  refine ⟨fun s6 w => u.le w ∧ ∃ (dl : List (Int × Value)) (D : List Rw), OwnF u w 43 2 s6 (D.flatMap encR) ∧ IterAt w r T.m (ptrs T.g) dl ∧ s6.blk ≠ some r ∧
      (∀ x ∈ D, (x.id, x.v) ∈ rowsG T.g ∧ Ints u x.s x.v) ∧ D.map (·.id) = dl.map (·.1), fun s6 _ => T.g.length - s6.n,
    ⟨hle, [], [], OwnF.nil hle _ _, hit0, by simp [Sl.blk], fun x hx => (by cases hx), rfl⟩, ?_⟩
  rintro s6 w ⟨hw, dl, D, ho, hit, hbr, hD, hids⟩
  have hDn : s6.n = D.length := flat_n encR_len (by decide) ho.own.seg
  have hDl : D.length = dl.length := by have := congrArg List.length hids; simpa using this
  refine nextT_of hit (fun hperm => ?_) fun p o2 hp hnp hit2 => entT_of hit2 ?_
  · have hRw : Rws w s6 D := ⟨ho.own.seg, fun x hx => (hD x hx).2.mono hw⟩
    have hidsP : (D.map (·.id)).Perm (T.g.map (·.1)) := by
      rw [hids, ← ptrs_ids]; exact hperm.map _
    have hmem : ∀ x ∈ D, ∃ n, (x.id, n) ∈ T.g ∧ n.v = x.v := fun x hx => by
      obtain ⟨y, hy, e⟩ := List.mem_map.1 (hD x hx).1
      simp only [Prod.mk.injEq] at e
      exact ⟨y.2, by rw [← e.1]; exact hy, e.2⟩
    refine spec.flat_Own hRw (fun x hx => ?_) (by have := hidsP.length_eq; simp at this; omega) (fun x hx => ?_) fun s9 ls u10 hR hpr hsrt => hK s9 ls u10 ?_ ?_ hsrt
    · obtain ⟨n, hn, _⟩ := hmem x hx
      exact hT.k.ok.ids (x.id, n) hn
    · obtain ⟨n, hn, hv⟩ := hmem x hx
      have h1 := (hT.k.ok.vec (x.id, n) hn).1
      have h2 := hT.k.ok.dm
      simp only at h1
      rw [hv] at h1
      omega
    · exact ⟨hR.own.weaken hw, fun x hx => (hR.inner x hx).weaken hw, hR.far, hR.apart⟩
    · refine hpr.trans ?_
      -- rows with the same ids, each a row of the tree's
      have hnd2 : ((rowsG T.g).map (·.1)).Nodup := by rw [rowsG_ids]; exact hnd
      have hndD : ((D.map Rw.pr).map (·.1)).Nodup := by rw [← ids_pr]; exact hidsP.nodup_iff.2 hnd
      have nd1 : (rowsG T.g).Nodup := (List.pairwise_map.1 hnd2).imp fun h e => h (by rw [e])
      have nd2 : (D.map Rw.pr).Nodup := (List.pairwise_map.1 hndD).imp fun h e => h (by rw [e])
      refine (List.perm_ext_iff_of_nodup nd2 nd1).2 fun p => ⟨fun hp => ?_, fun hp => ?_⟩
      · obtain ⟨x, hx, rfl⟩ := List.mem_map.1 hp
        exact (hD x hx).1
      · have : p.1 ∈ D.map (·.id) := hidsP.mem_iff.2 (by rw [← rowsG_ids]; exact List.mem_map.2 ⟨p, hp, rfl⟩)
        obtain ⟨x, hx, e⟩ := List.mem_map.1 this
        have h1 := (hD x hx).1
        have e2 : (x.id, x.v) = p := by
          obtain ⟨i, hi, ei⟩ := List.mem_iff_getElem.1 h1
          obtain ⟨j, hj, ej⟩ := List.mem_iff_getElem.1 hp
          have key : ∀ {i j : Nat} (hi : i < (rowsG T.g).length) (hj : j < (rowsG T.g).length), i < j → ((rowsG T.g)[i]).1 ≠ ((rowsG T.g)[j]).1 := fun hi hj hij => by
            have := List.pairwise_iff_getElem.1 hnd2 _ _ (by simpa using hi) (by simpa using hj) hij
            simpa using this
          rcases Nat.lt_trichotomy i j with hij | hij | hij
          · exact absurd (by rw [ei, ej]; exact e) (key hi hj hij)
          · subst hij; rw [ei] at ej; exact ej
          · exact absurd (by rw [ei, ej]; exact e.symm) (key hj hi hij)
        exact List.mem_map.2 ⟨x, hx, e2⟩
  · obtain ⟨x, hx, rfl⟩ := List.mem_map.1 hp
    have hN := h.tr.nodes x hx
    show ∃ r19 : Addr, some (Addr.mk x.2.p 0 none) = some r19 ∧ _
    have hwr : w r ≠ none := by obtain ⟨_, _, _, _, _, h3, _⟩ := hit; rw [h3]; simp
    have hur : u r = none := hr
    have hw2 : u.le (w.ins r o2) := fun c y hc => by rw [H.ins_other _ _ (fun e => by rw [e, hur] at hc; cases hc)]; exact hw c y hc
    have hc20 : (w.ins r o2).cell? ⟨x.2.p, 0, none⟩ = some (.slice x.2.sv.a x.2.sv.n x.2.sv.c) := by
      refine H.cell?_mono hw2 ?_
      rw [node_cell hN]; exact nodeC_v _
    have ho2 : OwnF u (w.ins r o2) 43 2 s6 (D.flatMap encR) := ⟨ho.own.le fun c y hc hy => by rw [H.ins_other _ _ (fun e => hbr (by rw [hc, e]))]; exact hy, hw2, ho.fresh⟩
    have hdl := iter_len hit2
    rw [ptrs_len] at hdl
    simp only [List.length_append, List.length_singleton] at hdl
    refine ⟨_, rfl, _, hc20, ?_⟩
    refine sem_push' tRows (build_row1 x.1 x.2.sv) (by decide) rfl (by simp [Value.oneCell']) ho2 (by omega) (by omega) fun s23 u24 ho23 hn23 he23 hb23 _ => ⟨⟨ho23.le, dl ++ [(x.1, .pointer (some ⟨x.2.p, 0, none⟩))], D ++ [⟨x.1, x.2.sv, x.2.v⟩], ?_, ?_, ?_, ?_, ?_⟩, by dsimp only; omega⟩
    · rw [List.flatMap_append]
      have : ([⟨x.1, x.2.sv, x.2.v⟩] : List Rw).flatMap encR = [.int .i64 x.1, .slice x.2.sv.a x.2.sv.n x.2.sv.c] := by simp [encR]
      rw [this]; exact ho23
    · refine hit2.else (fun y hy => he23 _ _ hy fun e => ?_) fun y hy => he23 _ _ hy hbr
      have := ho2.fresh _ e
      exact (h.known T.m (by rw [h.tr.mtag]; simp)) this
    · intro e
      rcases hb23 r e with h5 | h5
      · exact hbr h5
      · rw [H.ins_same] at h5; cases h5
    · intro y hy
      rcases List.mem_append.1 hy with hy | hy
      · exact hD y hy
      · simp at hy
        subst hy
        exact ⟨List.mem_map.2 ⟨x, hx, rfl⟩, hN.vec⟩
    · simp [hids]

theorem spec.hnsw_Tree__Known {u0 u : H} {fp : Nat → Option Tg} {b : Nat} {T : Tr} {id : Int} {K : Sl → Int → H → Prop} (h : In u0 u fp b T) (hT : TOk T) (hno : id ∉ T.g.map (·.1) → K ⟨none, 0, 0⟩ 50 u)
    (hyes : ∀ n l, getN T.g id = some n → n.kn[0]? = some l → ∀ s u', OwnF u u' 3 1 s ((sortI l).flatMap encI) → K s 0 u') : C.hnsw_Tree__Known (some ⟨b, 0, none⟩) id u K := by
  obtain ⟨_, _, _, c3, _⟩ := tree_cells h.tr
  apply vc.hnsw_Tree__Known
  refine ⟨fun e => (by cases e), fun _ => ⟨_, rfl, _, c3, ?_⟩⟩
  refine sem_get2 nodeTy h.tr.map (ct := .ptr) ((getN T.g id).map fun n => (⟨n.p, 0, none⟩ : Addr)) (by rw [getL_ptrs]; cases getN T.g id <;> rfl) ?_
  have hsome : (getL (ptrs T.g) id).isSome = (getN T.g id).isSome := by rw [getL_ptrs]; cases getN T.g id <;> rfl
  rw [hsome]
  refine ⟨fun hf => hno ?_, fun ht => ?_⟩
  · cases e : getN T.g id with
    | none => exact getN_none.1 e
    | some n => rw [e] at hf; simp at hf
  obtain ⟨n, hn⟩ := Option.isSome_iff_exists.1 ht
  rw [hn]
  have hN := h.tr.node hn
  obtain ⟨s, l, hs1, hs2, hc, ho, _⟩ := known_cell hN (lv := 0) (by decide)
  have hc' : u.cell? (((Addr.mk n.p 0 none).add 1).add 0) = some (.slice s.a s.n s.c) := hc
  have hm := (hT.k.many id n 0 l hn hs2).1
  have := (mostI_le (lv := ((0 : Nat) : Int)) hT.links).2
  have hln := ho.ints.len
  refine ⟨_, rfl, by decide, ⟨by omega, by omega⟩, s, hc', spec.slices_Clone___int_int_ ho.ints (by omega) fun s7 u8 ho7 _ => ?_⟩
  exact spec.slices_Sort___int_int_ ho7 (by omega) fun u9 ho9 _ => hyes n l hn hs2 s7 u9 ho9

theorem spec.hnsw_Tree__Levels {u0 u : H} {fp : Nat → Option Tg} {b : Nat} {T : Tr} {K : Int → H → Prop} (h : In u0 u fp b T) (hT : TOk T) (h0 : T.g = [] → K 0 u) (h1 : T.g ≠ [] → ∀ n : Int, 1 ≤ n → n ≤ 31 → K n u) : C.hnsw_Tree__Levels (some ⟨b, 0, none⟩) u K := by
  obtain ⟨_, _, _, c3, c4⟩ := tree_cells h.tr
  apply vc.hnsw_Tree__Levels
  intro K0 hK0
  refine ⟨fun e => (by cases e), fun _ => ⟨_, rfl, _, c4, fun he => ?_, fun he => hK0 _ _ ?_⟩⟩
  · refine h0 ?_
    rcases hT.entry with ⟨h2, _⟩ | h2
    · exact h2
    · obtain ⟨x, hx, e⟩ := List.mem_map.1 h2
      have := (hT.k.ok.ids x hx).1
      omega
  · have hent : T.entry ∈ T.g.map (·.1) := by
      rcases hT.entry with ⟨_, h2⟩ | h2
      · exact absurd h2 he
      · exact h2
    refine ⟨_, rfl, _, rfl, _, c3, _, c4, sem_node h.tr hent fun n hn hN => ⟨_, rfl, n.top, ?_, ?_⟩⟩
    · rw [Addr.add_lit, Nat.zero_add, node_cell hN]; exact nodeC_top hN.kslen
    · have := hT.k.ok.top _ (getN_mem hn)
      simp only at this
      exact ⟨⟨by omega, by omega⟩, h1 (fun e => by rw [e] at hent; simp at hent) _ (by omega) (by omega)⟩

/-- What building leaves. -/
structure BuildRes (u u' : H) (l : List Rw) (dim links : Int) (b : Nat) (fp : Nat → Option Tg) (T : Tr) : Prop where
  is : In u u' fp b T
  ok : TOk T
  rows : (rowsG T.g).Perm (l.map Rw.pr)
  dim : T.dim = dim
  links : T.links = links

def buildErr (l : List Rw) (dim links : Int) : Int := if rcheck l dim ≠ 0 then rcheck l dim else if links < 1 ∨ 16 < links then 1 else 0

theorem spec.hnsw_Build {s : Sl} {l : List Rw} {dim links seed : Int} {u : H} {K : Option Addr → Int → H → Prop} (hs : Rws u s l) (hTab : TabU u) (hseed : U64 seed)
    (hbad : buildErr l dim links ≠ 0 → K none (buildErr l dim links) u) (hok : buildErr l dim links = 0 → ∀ b fp T u', BuildRes u u' l dim links b fp T → K (some ⟨b, 0, none⟩) 0 u') : C.hnsw_Build s dim links seed u K := by
  have bad : ∀ z, buildErr l dim links = z → z ≠ 0 → K none z u := fun z e hz => by subst e; exact hbad hz
  apply vc.hnsw_Build
  refine spec.flat_Check hs ⟨fun hne => bad _ (if_pos hne) hne, fun he => ?_⟩
  intro K2 hK2
  refine ⟨fun h1 => bad 1 (by unfold buildErr; rw [if_neg (by simpa using he), if_pos (.inl h1)]) (by decide), fun h1 => ⟨fun h2 => bad 1 (by unfold buildErr; rw [if_neg (by simpa using he), if_pos (.inr h2)]) (by decide), fun h2 => hK2 _ _ _ ?_⟩⟩
  have hok := hok (by unfold buildErr; rw [if_neg (by simpa using he), if_neg (by omega)])
  have hR := rcheck_ok.1 he
  have hlen := hR.len
  apply vc.rand_New
  intro nr hnr
  have le1 := H.le_ins (u := u) (b := nr) (.cells #[.int .u64 seed] 168 (0, 0)) hnr
  refine sem_mkmap fun m om hm hmap => ?_
  intro nt hnt
  have hmr : m ≠ nr := fun e => by rw [e, H.ins_same] at hm; cases hm
  have htm : nt ≠ m := fun e => by rw [e, H.ins_same] at hnt; cases hnt
  have hnt2 : (u.ins nr (.cells #[.int .u64 seed] 168 (0, 0))) nt = none := by rw [H.ins_other _ _ htm] at hnt; exact hnt
  have htr : nt ≠ nr := fun e => by rw [e, H.ins_same] at hnt2; cases hnt2
  have hntu : u nt = none := by rw [H.ins_other _ _ htr] at hnt2; exact hnt2
  have hmu : u m = none := by rw [H.ins_other _ _ hmr] at hm; exact hm
  -- an empty tree
  obtain ⟨T0, hT0⟩ : ∃ T0 : Tr, T0 = ⟨dim, links, nr, m, seed, [], 0⟩ := ⟨_, rfl⟩
  let fp0 : Nat → Option Tg := fun c => if c = nt then some .tree else if c = nr then some .src else if c = m then some .map else none
  have f1 : fp0 nt = some .tree := if_pos rfl
  have f2 : fp0 nr = some .src := (if_neg (Ne.symm htr)).trans (if_pos rfl)
  have f3 : fp0 m = some .map := (if_neg (Ne.symm htm)).trans ((if_neg hmr).trans (if_pos rfl))
  have f4 : ∀ c, fp0 c ≠ none → c = nt ∨ c = nr ∨ c = m := fun c hc => by
    simp only [fp0] at hc
    by_cases e1 : c = nt
    · exact .inl e1
    · rw [if_neg e1] at hc
      by_cases e2 : c = nr
      · exact .inr (.inl e2)
      · rw [if_neg e2] at hc
        by_cases e3 : c = m
        · exact .inr (.inr e3)
        · rw [if_neg e3] at hc; exact absurd rfl hc
  have hcell : (treeC T0).toArray = #[.int .i64 dim, .int .i64 links, .pointer (some ⟨nr, 0, none⟩), .map (some m), .int .i64 0] := by rw [hT0]; rfl
  rw [← hcell]
  obtain ⟨w, hw⟩ : ∃ w, ((u.ins nr (.cells #[.int .u64 seed] 168 (0, 0))).ins m om).ins nt (.cells (treeC T0).toArray 91 (0, 0)) = w := ⟨_, rfl⟩
  have hlew : u.le w := by
    rw [← hw]
    exact (le1.trans (H.le_ins _ hm)).trans (H.le_ins _ hnt)
  have w1 : w nt = some (.cells (treeC T0).toArray 91 (0, 0)) := by rw [← hw, H.ins_same]
  have w2 : w nr = some (.cells #[.int .u64 seed] 168 (0, 0)) := by rw [← hw, H.ins_other _ _ (Ne.symm htr), H.ins_other _ _ (Ne.symm hmr), H.ins_same]
  have w3 : MapAt w m [] := hmap.else fun o ho => by rw [← hw, H.ins_other _ _ (Ne.symm htm)]; exact ho
  have hIn0 : In u w fp0 nt T0 := by
    refine ⟨⟨w1, by rw [hT0]; exact w2, by rw [hT0]; exact hseed, by rw [hT0]; exact w3, f1, by rw [hT0]; exact f2, by rw [hT0]; exact f3, fun x hx => by rw [hT0] at hx; cases hx⟩, hlew, fun c hc => ?_, fun c hc => ?_⟩
    · rcases f4 c hc with rfl | rfl | rfl
      · exact hntu
      · exact hnr
      · exact hmu
    · rcases f4 c hc with rfl | rfl | rfl
      · rw [w1]; simp
      · rw [w2]; simp
      · obtain ⟨_, _, h3, _⟩ := w3; rw [h3]; simp
  have hOk0 : TOk T0 := by
    rw [hT0]
    exact ⟨⟨⟨hR.dim, fun x hx => (by cases hx), fun x hx => (by cases hx), fun x hx => (by cases hx), fun x hx => (by cases hx), by simp⟩, fun i n lv l hn => (by cases hn)⟩, ⟨by show 1 ≤ links; omega, by show links ≤ 16; omega⟩, .inl ⟨rfl, rfl⟩⟩
  have ed : T0.dim = dim := by rw [hT0]
  have el : T0.links = links := by rw [hT0]
  have eg : T0.g = [] := by rw [hT0]
  rw [hw]
  clear hw hmap hcell hT0 w1 w2 w3
  -- rows of its own
  refine spec.flat_Own (hs.mono hlew) (fun r hr => hR.id r hr) (by omega) (fun r hr => by have := (hR.v r hr).1; have := hR.dim; omega) fun s11 ls u12 hOwn hpr hsrt => ?_
  have hls : ls.length = l.length := by have := hpr.length_eq; simpa using this
  have hlsn : (ls.map (·.id)).Nodup := by
    have h1 := hR.nodup
    rw [ids_pr] at h1 ⊢
    exact (hpr.map (·.1)).nodup_iff.2 h1
  have hlv : ∀ r ∈ ls, (1 ≤ r.id ∧ r.id ≤ 1000000000) ∧ (r.v.length : Int) = dim ∧ vok r.v := fun r hr => by
    have : r.pr ∈ l.map Rw.pr := hpr.mem_iff.1 (List.mem_map.2 ⟨r, hr, rfl⟩)
    obtain ⟨r', hr', e⟩ := List.mem_map.1 this
    have h1 : r'.id = r.id := congrArg Prod.fst e
    have h2 : r'.v = r.v := congrArg Prod.snd e
    rw [← h1, ← h2]
    exact ⟨hR.id r' hr', hR.v r' hr'⟩
  have hIn12 := hIn0.mono hOwn.own.le
  have hsn : s11.n = ls.length := hOwn.rws.len
  refine ⟨fun i z => 0 ≤ i ∧ i ≤ ls.length ∧ ∃ fp T, In u z fp nt T ∧ TOk T ∧ T.dim = dim ∧ T.links = links ∧ rowsG T.g = (ls.take i.toNat).map Rw.pr ∧ (∀ c o, u12 c = some o → s11.blk = some c ∨ (∃ r ∈ ls.drop i.toNat, r.s.blk = some c) → z c = some o ∧ fp c = none),
    fun i _ => ls.length - i.toNat, ⟨by omega, by omega, fp0, T0, hIn12, hOk0, ed, el, by rw [eg]; simp [rowsG], fun c o hc hm => ⟨hc, ?_⟩⟩, ?_⟩
  · have hcw : w c = none := by
      rcases hm with hm | ⟨r, hr, hm⟩
      · exact hOwn.own.fresh c hm
      · exact (hOwn.inner r (List.mem_of_mem_drop hr)).fresh c hm
    exact hIn0.fresh hcw
  rintro i z ⟨i0, i1, fp, T, hIn, hOk, hd, hl, hrows, hkp⟩
  refine ⟨fun hil => ?_, fun hig => ?_⟩
  · have hi : i.toNat < ls.length := by omega
    have hz11 : Rws z s11 (ls.take 0) ∨ True := .inr trivial
    have hseg : Seg z s11 2 (ls.flatMap encR) := Seg.else hOwn.own.own.seg fun g o hg ho => (hkp g o ho (.inl hg)).1
    obtain ⟨r, hr⟩ : ∃ r, ls[i.toNat]? = some r := ⟨_, List.getElem?_eq_getElem hi⟩
    obtain ⟨p, hp, hc⟩ := Seg.elem encR_len (by decide) hseg hr
    have hd0 : ls.drop i.toNat = r :: ls.drop (i.toNat + 1) := by
      rw [List.drop_eq_getElem_cons hi]
      rw [List.getElem?_eq_getElem hi] at hr
      rw [Option.some.inj hr]
    have hrm : r ∈ ls := List.mem_of_getElem? hr
    have hri : OwnF w u12 3 1 r.s (r.v.flatMap encI) := hOwn.inner r hrm
    have hrz : ∀ g, r.s.blk = some g → ∀ o, u12 g = some o → z g = some o ∧ fp g = none := fun g hg o ho => hkp g o ho (.inr ⟨r, by rw [hd0]; exact .head _, hg⟩)
    obtain ⟨fp2, hIn2, hv2, hk2⟩ := hIn.tagVec (s := r.s) (fun g hg => by
      obtain ⟨o, ho⟩ := Option.ne_none_iff_exists'.1 (own_known' hri hg)
      obtain ⟨h5, h6⟩ := hrz g hg o ho
      exact ⟨h6, hlew.none (hri.fresh g hg), by rw [h5]; simp⟩) r.id
    have hnin : r.id ∉ T.g.map (·.1) := fun hm => by
      rw [← rowsG_ids, hrows, ← ids_pr] at hm
      obtain ⟨r', hr', e⟩ := List.mem_map.1 hm
      obtain ⟨j, hj, rfl⟩ := List.mem_iff_getElem.1 hr'
      simp only [List.length_take] at hj
      rw [List.getElem_take] at e
      have := List.pairwise_iff_getElem.1 hlsn j i.toNat (by simp; omega) (by simp; omega) (by omega)
      simp only [List.getElem_map] at this
      rw [List.getElem?_eq_getElem hi] at hr
      rw [Option.some.inj hr] at this
      exact this e
    have hTl : T.g.length ≤ 512 := by
      have := congrArg List.length hrows
      simp [rowsG] at this
      omega
    have hc0 := hc 0 _ rfl
    have hc1 := hc 1 _ rfl
    rw [Addr.add_zero'] at hc0
    refine ⟨p, hp, ⟨i0, hil⟩, _, hc0, _, hc1, spec.hnsw_Tree__lay hIn2 hOk hTab hnin (hlv r hrm).1 (Seg.else hri.ints fun g o hg ho => (hrz g hg o ho).1) hv2 (by rw [hd]; exact (hlv r hrm).2) hTl fun z2 fp3 T3 h3 ht3 hOk3 hr3 hd3 hl3 => ⟨⟨by omega, by omega⟩, ⟨by omega, by omega, fp3, T3, h3, hOk3, hd3.trans hd, hl3.trans hl, ?_, fun c o hc5 hm => ?_⟩, by dsimp only; omega⟩⟩
    · rw [hr3, hrows, show (i + 1).toNat = i.toNat + 1 by omega, List.take_add_one, hr]
      simp [Rw.pr]
    · have hne : r.s.blk ≠ some c := by
        rcases hm with hm | ⟨r', hr', hm⟩
        · exact hOwn.far r hrm c hm
        · rw [show (i + 1).toNat = i.toNat + 1 by omega] at hr'
          have hpw := hOwn.apart
          rw [← List.take_append_drop i.toNat ls, hd0] at hpw
          have h2 := (List.pairwise_cons.1 (List.pairwise_append.1 hpw).2.1).1 r' hr'
          exact fun e => h2 c e hm
      have hm' : s11.blk = some c ∨ ∃ r ∈ ls.drop i.toNat, r.s.blk = some c := by
        rcases hm with hm | ⟨r', hr', hm⟩
        · exact .inl hm
        · rw [show (i + 1).toNat = i.toNat + 1 by omega] at hr'
          exact .inr ⟨r', by rw [hd0]; exact .tail _ hr', hm⟩
      obtain ⟨h5, h6⟩ := hkp c o hc5 hm'
      have h7 : fp2 c = none := by rw [hk2 c hne]; exact h6
      exact ⟨ht3.keep c o h5 h7, ht3.none h5 h7⟩
  · have hi : i.toNat = ls.length := by
      have : ¬ i < (s11.n : Int) := hig
      omega
    rw [hi, List.take_length] at hrows
    exact hok nt fp T z ⟨hIn, hOk, by rw [hrows]; exact hpr, hd, hl⟩

end Go.Proofs.YtpbelkpfljhjlaaGreatDoor

/- VcSrch -/
namespace Go.Proofs.YtpbelkpfljhjlaaGreatDoor

/-! ### which rows are seen, which are left -/

def visF (bud : Nat) (s : List Int × List Int) (id : Int) : List Int × List Int :=
  if id ∈ s.1 then s else if s.1.length = bud then (s.1, s.2 ++ [id]) else (s.1 ++ [id], s.2)

structure VisI (bud : Nat) (Wb P S R : List Int) : Prop where
  nodup : S.Nodup
  sub : R.Sublist P
  all : ∀ x, (x ∈ S ∨ x ∈ R) ↔ (x ∈ Wb ∨ x ∈ P)
  dis : ∀ x ∈ R, x ∉ S
  len : S.length ≤ bud
  full : R ≠ [] → S.length = bud

theorem VisI.step {bud : Nat} {Wb P S R : List Int} (h : VisI bud Wb P S R) (id : Int) : VisI bud Wb (P ++ [id]) (visF bud (S, R) id).1 (visF bud (S, R) id).2 := by
  unfold visF
  by_cases h1 : id ∈ S
  · rw [if_pos h1]
    refine ⟨h.nodup, h.sub.trans (List.sublist_append_left _ _), fun x => ?_, h.dis, h.len, h.full⟩
    rw [h.all x, List.mem_append, List.mem_singleton]
    constructor
    · rintro (h2 | h2)
      · exact .inl h2
      · exact .inr (.inl h2)
    · rintro (h2 | h2 | rfl)
      · exact .inl h2
      · exact .inr h2
      · exact (h.all x).1 (.inl h1)
  · rw [if_neg h1]
    by_cases h2 : S.length = bud
    · simp only [h2, if_true]
      refine ⟨h.nodup, h.sub.append (List.Sublist.refl _), fun x => ?_, fun x hx => ?_, h.len, fun _ => h2⟩
      · rw [List.mem_append, List.mem_append, ← or_assoc, h.all x, or_assoc]
      · rcases List.mem_append.1 hx with hx | hx
        · exact h.dis x hx
        · simp at hx; rw [hx]; exact h1
    · simp only [h2, if_false]
      have hR : R = [] := by
        by_cases e : R = []
        · exact e
        · exact absurd (h.full e) h2
      refine ⟨?_, h.sub.trans (List.sublist_append_left _ _), fun x => ?_, fun x hx => (by rw [hR] at hx; cases hx), ?_, fun hne => absurd hR hne⟩
      · refine List.nodup_append.2 ⟨h.nodup, by simp, fun a ha c hc => ?_⟩
        simp at hc; subst hc; exact fun e => h1 (e ▸ ha)
      · rw [List.mem_append, List.mem_append, or_right_comm, h.all x, or_assoc]
      · have := h.len
        simp; omega

theorem VisI.fold {bud : Nat} {Wb : List Int} : ∀ (l P S R : List Int), VisI bud Wb P S R → VisI bud Wb (P ++ l) (l.foldl (visF bud) (S, R)).1 (l.foldl (visF bud) (S, R)).2 := by
  intro l
  induction l with
  | nil => intro P S R h; simpa using h
  | cons x l ih =>
    intro P S R h
    have := ih (P ++ [x]) _ _ (h.step x)
    rw [List.append_assoc, List.singleton_append] at this
    exact this

theorem VisI.start {bud : Nat} {W : List Int} (hW : W.Nodup) : VisI bud (W.take bud) [] (W.take bud) [] :=
  ⟨hW.sublist (List.take_sublist _ _), List.Sublist.refl _, fun x => (by simp), fun x hx => (by cases hx), (by rw [List.length_take]; omega), fun h => absurd rfl h⟩

def entryW (g : List (Int × Nd)) (q : List Int) (entry : Int) : List Int := if entry = 0 then [] else walkF g q 0 (startF g q entry 0)

/-- Those that are seen, and those that are left. -/
def srchF (g : List (Int × Nd)) (q : List Int) (entry : Int) (bud : Nat) : List Int × List Int := (sortI (g.map (·.1))).foldl (visF bud) ((entryW g q entry).take bud, [])

theorem entryW_ok {T : Tr} (hT : TOk T) (q : List Int) : (entryW T.g q T.entry).Nodup ∧ ∀ x ∈ entryW T.g q T.entry, x ∈ T.g.map (·.1) := by
  unfold entryW
  split
  · exact ⟨List.nodup_nil, fun x hx => by cases hx⟩
  · rename_i he
    have hent : T.entry ∈ T.g.map (·.1) := by
      rcases hT.entry with ⟨_, h2⟩ | h2
      · exact absurd h2 he
      · exact h2
    have hMet := Met.one (hitG T.g q) (ids := T.g.map (·.1)) (hitG_id T.g q) (startF_in hT.k.ok (q := q) hent 0)
    exact ⟨(expl_nodup (hitG T.g q) (nbG T.g 0) (hitG_id T.g q) (hT.k.ok.nb _) _ _ _ hMet).1, expl_in (hitG T.g q) (nbG T.g 0) (hitG_id T.g q) (hT.k.ok.nb _) _ _ _ hMet⟩

theorem srchF_ok {T : Tr} (hT : TOk T) (hnd : (T.g.map (·.1)).Nodup) (q : List Int) (bud : Nat) :
    ((srchF T.g q T.entry bud).1 ++ (srchF T.g q T.entry bud).2).Perm (T.g.map (·.1)) ∧ (srchF T.g q T.entry bud).1.length ≤ bud ∧ ((srchF T.g q T.entry bud).2 ≠ [] → (srchF T.g q T.entry bud).1.length = bud) ∧ Rise (srchF T.g q T.entry bud).2 := by
  obtain ⟨h1, h2⟩ := entryW_ok hT q
  have h := VisI.fold (sortI (T.g.map (·.1))) [] _ _ (VisI.start (bud := bud) h1)
  rw [List.nil_append] at h
  have hL : ∀ x, x ∈ sortI (T.g.map (·.1)) ↔ x ∈ T.g.map (·.1) := fun x => (sortI_perm _).mem_iff
  have hLr := sortI_rise hnd
  have hRr : Rise (srchF T.g q T.entry bud).2 := hLr.sublist h.sub
  have hRn : (srchF T.g q T.entry bud).2.Nodup := hRr.imp fun h => by omega
  refine ⟨(List.perm_ext_iff_of_nodup (List.nodup_append.2 ⟨h.nodup, hRn, fun a ha c hc e => h.dis c hc (e ▸ ha)⟩) hnd).2 fun x => ?_, h.len, h.full, hRr⟩
  rw [List.mem_append]
  refine (h.all x).trans ?_
  rw [hL]
  exact ⟨fun h3 => h3.elim (fun h4 => h2 x (List.mem_of_mem_take h4)) fun h4 => h4, .inr⟩

/-! ### whoever sees -/

/-- What is known while a search sees. -/
def SrJ (B : H) (M nb : Nat) (k : Int) (g : List (Int × Nd)) (q : List Int) (S : List Int) (v : H) : Prop :=
  ∃ o, MapAt (B.ins M o) M (S.map fun x => (x, Value.bool true)) ∧ TopAt (B.ins M o) nb k v (S.map (hitG g q))

theorem SrJ.le {B : H} {M nb : Nat} {k : Int} {g : List (Int × Nd)} {q S : List Int} {v : H} (h : SrJ B M nb k g q S v) (hM : B M = none) : B.le v := by
  obtain ⟨o, _, ht⟩ := h
  exact (H.le_ins _ hM).trans ht.le

theorem SrJ.map {B : H} {M nb : Nat} {k : Int} {g : List (Int × Nd)} {q S : List Int} {v : H} (h : SrJ B M nb k g q S v) : MapAt v M (S.map fun x => (x, Value.bool true)) := by
  obtain ⟨o, hm, ht⟩ := h
  exact hm.mono ht.le

theorem bSrch1 : hasBody Tryz.prog 50 = true := by kernel_rfl

theorem getL_set (S : List Int) (x : Int) : getL (S.map fun x => (x, Value.bool true)) x = if x ∈ S then some (.bool true) else none := by
  induction S with
  | nil => rfl
  | cons y S ih =>
    unfold getL at *
    rw [List.map_cons, List.find?_cons]
    by_cases e : y = x
    · subst e; simp
    · rw [beq_false_of_ne e]
      rw [ih]
      have : (x ∈ y :: S) ↔ x ∈ S := by simp [Ne.symm e]
      simp only [this]

theorem srch_sees {B : H} {n0 n9 n13 M nb : Nat} {k bud : Int} {g : List (Int × Nd)} {q S : List Int} {x : Int} {v : H} {K : Bool → H → Prop} (hM : B M = none) (k1 : 1 ≤ k) (k2 : k ≤ 64) (b0 : 0 ≤ bud)
    (h0 : B n0 = some (.cells #[.int .i64 bud] 3 (0, 0))) (h9 : B n9 = some (.cells #[.pointer (some ⟨nb, 0, none⟩)] 95 (0, 0))) (h13 : B n13 = some (.cells #[.map (some M)] 98 (0, 0))) (hj : SrJ B M nb k g q S v)
    (hfull : S.length = bud.toNat → K false v) (hold : S.length ≠ bud.toNat → x ∈ S → K true v) (hnew : S.length ≠ bud.toNat → x ∉ S → ∀ v', SrJ B M nb k g q (S ++ [x]) v' → K true v') :
    ClY Tryz.prog (.func (.func 50) #[] #[.pointer (some ⟨n13, 0, none⟩), .pointer (some ⟨n0, 0, none⟩), .pointer (some ⟨n9, 0, none⟩)]) #[hitV' (hitG g q x)] [.one .bool] v K := by
  have hBv := hj.le hM
  refine .inl ⟨_, _, rfl, bodyOf bSrch1, ?_⟩
  refine vc.hnsw_Tree__Search_1 (hitG g q x).1 (hiW (hitG g q x).2) (loW (hitG g q x).2) ⟨n13, 0, none⟩ ⟨n0, 0, none⟩ ⟨n9, 0, none⟩ v K ?_
  refine ⟨_, H.cell?_of (hBv _ _ h13) 0, sem_maplen boolTy hj.map ?_⟩
  have hlen : (S.map fun x => (x, Value.bool true)).length = S.length := by simp
  rw [hlen]
  refine ⟨bud, H.cell?_of (hBv _ _ h0) 0, fun he => hfull (by omega), fun he => ⟨_, H.cell?_of (hBv _ _ h13) 0, ?_⟩⟩
  have hne : S.length ≠ bud.toNat := by omega
  refine sem_get boolTy hj.map (ct := .bool) (decide (x ∈ S)) ?_ ⟨fun hb => ?_, fun hb => hold hne (by simpa using hb)⟩
  · show (getL _ x).getD _ = _
    rw [getL_set]
    by_cases e : x ∈ S <;> simp [e, CT.enc]
  · have hx : x ∉ S := by simpa using hb
    refine ⟨_, H.cell?_of (hBv _ _ h13) 0, sem_put boolTy hj.map (x := x) (by rw [getL_set, if_neg hx]) fun o' hm' => ?_⟩
    obtain ⟨o, hm, ht⟩ := hj
    have hr := ht.remap o'
    have hB2 : B.le (v.ins M o') := (H.le_ins _ hM).trans hr.le
    refine ⟨_, H.cell?_of (hB2 _ _ h9) 0, spec.topk_Heap__Offer (x := hitG g q x) hr k1 k2 fun bb w hw => hnew hne hx w ⟨o', ?_, ?_⟩⟩
    · obtain ⟨es, clk, h1, h2⟩ := hm'
      rw [H.ins_same] at h1
      refine ⟨es, clk, by rw [H.ins_same]; exact h1, ?_⟩
      rw [List.map_append]
      exact h2
    · rw [List.map_append]
      exact hw.perm (List.perm_append_singleton _ _).symm

theorem OwnF.framed {v0 v v0' v' : H} {e k : Nat} {s : Sl} {xs : List Value} (h : OwnF v0 v e k s xs) (hf : Framed v0 v v0' v') : OwnF v0' v' e k s xs := by
  have hb : ∀ g, s.blk = some g → ∃ o, v g = some o := fun g hg => Option.ne_none_iff_exists'.1 (own_known' h hg)
  refine ⟨h.own.le fun b o hbl hu => (hf.out b o (h.fresh b hbl) hu).2, hf.le, fun g hg => ?_⟩
  obtain ⟨o, ho⟩ := hb g hg
  exact (hf.out g o (h.fresh g hg) ho).1

end Go.Proofs.YtpbelkpfljhjlaaGreatDoor

/- VcSrch2 -/
namespace Go.Proofs.YtpbelkpfljhjlaaGreatDoor

/-- The region of those that were left: any rows. -/
def allRgn (si : Sl) (R : List Int) : Rgn := ⟨1, ⟨none, 0, 0⟩, ⟨none, 0, 0⟩, 0, si, [], [], R⟩

def restAll (si : Sl) (R : List Int) : List Rgn := if R = [] then [] else [allRgn si R]

theorem build_all (s : Sl) : buildOf Tryz.prog 51 1 #[(0, .agg #[.int .i64 1, .slice none 0 0, .slice none 0 0, .int .u64 0, .int .u64 0, .slice s.a s.n s.c])] =
    some (111, [.int .i64 1, .slice none 0 0, .slice none 0 0, .int .u64 0, .int .u64 0, .slice s.a s.n s.c]) := by kernel_rfl

theorem cell_ans {z : H} {n : Nat} {a c d : Sl} (h : z n = some (.cells #[.slice a.a a.n a.c, .slice c.a c.n c.c, .slice d.a d.n d.c] 53 (0, 0))) :
    z.cell? ⟨n, 0, none⟩ = some (.slice a.a a.n a.c) ∧ z.cell? ((Addr.mk n 0 none).add 1) = some (.slice c.a c.n c.c) ∧ z.cell? ((Addr.mk n 0 none).add 2) = some (.slice d.a d.n d.c) := by
  refine ⟨H.cell?_of h 0, ?_, ?_⟩
  · rw [Addr.add_lit, Nat.zero_add]; exact H.cell?_of h 1
  · rw [Addr.add_lit, Nat.zero_add]; exact H.cell?_of h 2

theorem OwnF.skip {u0 z z' : H} {e k n : Nat} {s : Sl} {xs : List Value} (h : OwnF u0 z e k s xs) (hk : ∀ c o, z c = some o → c ≠ n → z' c = some o) (hs : s.blk ≠ some n) (h0 : u0 n = none) : OwnF u0 z' e k s xs :=
  ⟨h.own.le fun c o hc ho => hk c o ho fun e => hs (by rw [hc, e]), fun c o hc => hk c o (h.le c o hc) fun e => (by rw [e, h0] at hc; cases hc), h.fresh⟩

theorem st_three {u : H} {n : Nat} {x y z a c d : Value} {T : TypeId} {f : H → Prop} (hn : u n = some (.cells #[x, y, z] T (0, 0))) (h1 : ∀ v ∈ [a, c, d], v.oneCell' = true) (hf : f (u.ins n (.cells #[a, c, d] T (0, 0)))) : H.St u ⟨n, 0, none⟩ [a, c, d] f := by
  refine ⟨_, _, hn, rfl, by simp, h1, ?_⟩
  have : wr #[x, y, z] 0 [a, c, d] = #[a, c, d] := by simp [wr]
  simp only [this]
  exact hf

/-- A set's keys, collected and sorted. -/
theorem sortedB {u : H} {M nk : Nat} {S : List Int} {K : Sl → H → Prop} (h : MapAt u M (S.map fun x => (x, Value.bool true))) (hc : u.cell? ⟨nk, 0, none⟩ = some (.map (some M))) (hS : S.length ≤ 1000000) (hK : ∀ s u', OwnF u u' 3 1 s ((sortI S).flatMap encI) → K s u') :
    C.slices_Sorted_int_ (.func (.func 95) #[] #[.pointer (some ⟨nk, 0, none⟩)]) u K := by
  have hnd : ((S.map fun x => (x, Value.bool true)).map (·.1)).Nodup := by obtain ⟨_, _, _, he⟩ := h; exact he.nodup
  refine spec.slices_Sorted_int_ (by simpa using hS) hnd (fun u0 hu0 => keysB_iter boolTy (h.mono hu0) (H.cell?_mono hu0 hc)) fun s u' ho => hK s u' ?_
  have e : (S.map fun x => (x, Value.bool true)).map (·.1) = S := by rw [List.map_map]; exact List.map_id' S
  rw [e] at ho
  exact ho

theorem spec.hnsw_Tree__Search {u0 u : H} {fp : Nat → Option Tg} {b : Nat} {T : Tr} {t : Sl} {q : List Int} {k bud : Int} {K : Sl → Sl → Sl → Int → H → Prop} (h : In u0 u fp b T) (hT : TOk T) (ht : Ints u t q)
    (hbad : askErr q T.dim k bud ≠ 0 → ∀ u', u.le u' → K ⟨none, 0, 0⟩ ⟨none, 0, 0⟩ ⟨none, 0, 0⟩ (askErr q T.dim k bud) u')
    (hok : askErr q T.dim k bud = 0 → ∀ sh ss sr si u', AnsO u u' sh ss sr (topk k.toNat ((srchF T.g q T.entry bud.toNat).1.map (hitG T.g q))) (sortI (srchF T.g q T.entry bud.toNat).1) (restAll si (srchF T.g q T.entry bud.toNat).2) → K sh ss sr 0 u') :
    C.hnsw_Tree__Search (some ⟨b, 0, none⟩) t k bud u K := by
  have hnd := h.tr.nodup
  apply vc.hnsw_Tree__Search
  intro n0 hn0
  refine ⟨fun e => (by cases e), fun _ => ?_⟩
  have le0 := H.le_ins (u := u) (b := n0) (.cells #[.int .i64 bud] 3 (0, 0)) hn0
  obtain ⟨u1, hu1⟩ : ∃ u1, u.ins n0 (.cells #[.int .i64 bud] 3 (0, 0)) = u1 := ⟨_, rfl⟩
  have b0 : u1 n0 = some (.cells #[.int .i64 bud] 3 (0, 0)) := by rw [← hu1, H.ins_same]
  rw [hu1] at le0 ⊢
  obtain ⟨c0, _, _, _, _⟩ := tree_cells (h.tr.mono le0)
  refine ⟨_, rfl, _, c0, _, H.cell?_of b0 0, spec.flat_Asked (ht.mono le0) ⟨fun hne => hbad hne _ le0, fun he => ?_⟩⟩
  have hok := hok he
  obtain ⟨hv, k1, k2, bd0, bd1⟩ : vcheck q T.dim = 0 ∧ 1 ≤ k ∧ k ≤ 64 ∧ 0 ≤ bud ∧ bud ≤ 1000000 := by
    unfold askErr at he
    by_cases h1 : vcheck q T.dim ≠ 0
    · rw [if_pos h1] at he; exact absurd he h1
    · rw [if_neg h1] at he
      by_cases h2 : k < 1 ∨ 64 < k ∨ bud < 0 ∨ 1000000 < bud
      · rw [if_pos h2] at he; cases he
      · exact ⟨by simpa using h1, by omega, by omega, by omega, by omega⟩
  obtain ⟨_, _, q3, q4⟩ := vcheck_ok hv
  refine spec.topk_New (fun hb => by omega) fun _ _ nb u8 hu8 hnb htop => ?_
  intro n9 hn9
  refine st_new (zs := [.pointer none]) rfl (by simp [Value.oneCell']) ?_
  have ht1 := htop.rebase hn9 (.cells [.pointer (some ⟨nb, 0, none⟩)].toArray 95 (0, 0))
  obtain ⟨u10, hu10⟩ : ∃ u10, u8.ins n9 (.cells [.pointer (some ⟨nb, 0, none⟩)].toArray 95 (0, 0)) = u10 := ⟨_, rfl⟩
  rw [hu10] at ht1 ⊢
  refine sem_mkmap fun M oM hM hmap => ?_
  have ht2 := ht1.rebase hM oM
  intro n13 hn13
  refine st_new (zs := [.map none]) rfl (by simp [Value.oneCell']) ?_
  have ht3 := ht2.rebase hn13 (.cells [.map (some M)].toArray 98 (0, 0))
  have hu1n9 : u1 n9 = none := hu8.none hn9
  have h9k : u10 n9 = some (.cells [.pointer (some ⟨nb, 0, none⟩)].toArray 95 (0, 0)) := by rw [← hu10, H.ins_same]
  have hM9 : M ≠ n9 := fun e => by rw [e, h9k] at hM; cases hM
  have hu1M : u1 M = none := hu8.none (by rw [← hu10, H.ins_other _ _ hM9] at hM; exact hM)
  have hM13 : M ≠ n13 := fun e => by rw [← e, H.ins_same] at hn13; cases hn13
  have h13' : u10 n13 = none := by rw [H.ins_other _ _ (Ne.symm hM13)] at hn13; exact hn13
  have h913 : n9 ≠ n13 := fun e => by rw [← e, h9k] at h13'; cases h13'
  have hu1n13 : u1 n13 = none := hu8.none (by rw [← hu10, H.ins_other _ _ (Ne.symm h913)] at h13'; exact h13')
  -- what stays while it sees
  obtain ⟨B, hB⟩ : ∃ B, (u1.ins n9 (.cells [.pointer (some ⟨nb, 0, none⟩)].toArray 95 (0, 0))).ins n13 (.cells [.map (some M)].toArray 98 (0, 0)) = B := ⟨_, rfl⟩
  have hBM : B M = none := by rw [← hB, H.ins_other _ _ hM13, H.ins_other _ _ hM9]; exact hu1M
  have hcomm : ((u1.ins n9 (.cells [.pointer (some ⟨nb, 0, none⟩)].toArray 95 (0, 0))).ins M oM).ins n13 (.cells [.map (some M)].toArray 98 (0, 0)) = B.ins M oM := by
    rw [← hB]
    funext c
    unfold H.ins
    by_cases e1 : c = n13
    · subst e1; simp [Ne.symm hM13]
    · simp [e1]
  rw [hcomm] at ht3
  obtain ⟨u14, hu14⟩ : ∃ u14, (u10.ins M oM).ins n13 (.cells [.map (some M)].toArray 98 (0, 0)) = u14 := ⟨_, rfl⟩
  rw [hu14] at ht3 ⊢
  have hB1 : u1.le B := by
    rw [← hB]
    exact (H.le_ins _ hu1n9).trans (H.le_ins _ (by rw [H.ins_other _ _ (Ne.symm h913)]; exact hu1n13))
  have hB0 : B n0 = some (.cells #[.int .i64 bud] 3 (0, 0)) := hB1 _ _ b0
  have hB9 : B n9 = some (.cells #[.pointer (some ⟨nb, 0, none⟩)] 95 (0, 0)) := by rw [← hB, H.ins_other _ _ h913, H.ins_same]
  have hB13 : B n13 = some (.cells #[.map (some M)] 98 (0, 0)) := by rw [← hB, H.ins_same]
  have hj0 : SrJ B M nb k T.g q [] u14 := ⟨oM, by
    obtain ⟨es, clk, h1, h2⟩ := hmap
    rw [H.ins_same] at h1
    exact ⟨es, clk, by rw [H.ins_same]; exact h1, h2⟩, ht3⟩
  have huB : u.le B := le0.trans hB1
  have hInB := h.mono huB
  have hqB : QAt B T.dim t q := ⟨ht.mono huB, q4, q3⟩
  clear ht1 ht2 ht3 hmap hcomm hM hn13 h13' hn9 htop hu8 hu10 hu14 hB
  -- behind the walk
  intro K15 hK15
  have behind : ∀ v, SrJ B M nb k T.g q ((entryW T.g q T.entry).take bud.toNat) v → K15 v := by
    intro v hj
    refine hK15 v ?_
    have hBv := hj.le hBM
    obtain ⟨_, _, _, c3, _⟩ := tree_cells (hInB.mono hBv).tr
    have hsm := hT.k.ok.small
    refine ⟨_, rfl, _, c3, sorted_keysN (hInB.mono hBv).tr.map (by rw [ptrs_len]; omega) fun s21 u22 ho21 => ?_⟩
    rw [ptrs_ids] at ho21
    obtain ⟨L, hL⟩ : ∃ L, sortI (T.g.map (·.1)) = L := ⟨_, rfl⟩
    rw [hL] at ho21
    have hLin : ∀ x ∈ L, x ∈ T.g.map (·.1) := fun x hx => by rw [← hL] at hx; exact (sortI_perm _).mem_iff.1 hx
    have hLl : L.length ≤ 513 := by rw [← hL, sortI_len]; simp; omega
    have hLn := ho21.ints.len
    refine ⟨fun s25 i w => 0 ≤ i ∧ i ≤ L.length ∧ ∃ v0, SrJ B M nb k T.g q ((L.take i.toNat).foldl (visF bud.toNat) ((entryW T.g q T.entry).take bud.toNat, [])).1 v0 ∧ OwnF v0 w 3 1 s21 (L.flatMap encI) ∧
        OwnF v0 w 3 1 s25 ((((L.take i.toNat).foldl (visF bud.toNat) ((entryW T.g q T.entry).take bud.toNat, [])).2).flatMap encI) ∧ Far s21 s25, fun _ i _ => L.length - i.toNat,
      ⟨by omega, by omega, v, by simpa using hj, ho21, by simpa using OwnF.nil ho21.le 3 1, fun g _ hg => by simp [Sl.blk] at hg⟩, ?_⟩
    rintro s25 i w ⟨i0, i1, v0, hj0', h21, h25, hfar⟩
    have hBv0 := hj0'.le hBM
    have hv0w : v0.le w := h21.le
    have hInw := hInB.mono (hBv0.trans hv0w)
    have hR0 : VisI bud.toNat ((entryW T.g q T.entry).take bud.toNat) (L.take i.toNat) ((L.take i.toNat).foldl (visF bud.toNat) ((entryW T.g q T.entry).take bud.toNat, [])).1 ((L.take i.toNat).foldl (visF bud.toNat) ((entryW T.g q T.entry).take bud.toNat, [])).2 := by
      have := VisI.fold (L.take i.toNat) [] _ _ (VisI.start (bud := bud.toNat) (entryW_ok hT q).1)
      rw [List.nil_append] at this
      exact this
    have hRlen : ((L.take i.toNat).foldl (visF bud.toNat) ((entryW T.g q T.entry).take bud.toNat, [])).2.length ≤ 513 := by
      have := hR0.sub.length_le
      simp at this
      omega
    have h25n := h25.ints.len
    refine ⟨fun hil => ?_, fun hig => ?_⟩
    · obtain ⟨p, hp, hc⟩ := h21.ints.at i0 hil
      have hx : L[i.toNat]? = some (L.getD i.toNat 0) := getD_some (by omega)
      have hxin := hLin _ (List.mem_of_getElem? hx)
      have hf := take_fold (visF bud.toNat) L hx ((entryW T.g q T.entry).take bud.toNat, [])
      rw [show i.toNat + 1 = (i + 1).toNat by omega] at hf
      obtain ⟨S, hS⟩ : ∃ S, ((L.take i.toNat).foldl (visF bud.toNat) ((entryW T.g q T.entry).take bud.toNat, [])).1 = S := ⟨_, rfl⟩
      obtain ⟨R, hR⟩ : ∃ R, ((L.take i.toNat).foldl (visF bud.toNat) ((entryW T.g q T.entry).take bud.toNat, [])).2 = R := ⟨_, rfl⟩
      have hSR : (L.take i.toNat).foldl (visF bud.toNat) ((entryW T.g q T.entry).take bud.toNat, []) = (S, R) := by rw [← hS, ← hR]
      rw [hSR] at hj0' h25 hf hRlen
      refine ⟨p, hp, ⟨i0, hil⟩, _, hc, _, H.cell?_of (hv0w _ _ (hBv0 _ _ hB13)) 0, ?_⟩
      refine sem_get boolTy (hj0'.map.mono hv0w) (ct := .bool) (decide (L.getD i.toNat 0 ∈ S)) ?_ ⟨fun hb => ?_, fun hb => ?_⟩
      · show (getL _ _).getD _ = _
        rw [getL_set]
        by_cases e : L.getD i.toNat 0 ∈ S <;> simp only [e, if_true, if_false, decide_true, decide_false] <;> rfl
      · have hxS : L.getD i.toNat 0 ∉ S := by simpa using hb
        refine spec.hnsw_Tree__hit hInw.tr hT.k.ok hxin (hqB.mono (hBv0.trans hv0w)) ?_
        refine (srch_sees (n0 := n0) (n9 := n9) (n13 := n13) (x := L.getD i.toNat 0) (K := fun bb v' => (bb = false → S.length = bud.toNat ∧ SrJ B M nb k T.g q S v') ∧ (bb = true → S.length ≠ bud.toNat ∧ SrJ B M nb k T.g q (S ++ [L.getD i.toNat 0]) v'))
          hBM k1 k2 bd0 hB0 hB9 hB13 hj0' (fun hfull => ⟨fun _ => ⟨hfull, hj0'⟩, fun e => (by cases e)⟩) (fun _ hin => absurd hin hxS) fun hne _ v' hv' => ⟨fun e => (by cases e), fun _ => ⟨hne, hv'⟩⟩).frame hv0w ?_
        rintro bb v0' w' hfr ⟨hbf, hbt⟩
        have h21' := h21.framed hfr
        have h25' := h25.framed hfr
        refine ⟨fun hb2 => ?_, fun hb2 => ?_⟩
        · obtain ⟨hfull, hj'⟩ := hbf (Bool.eq_false_iff.2 hb2)
          have hf2 : (L.take (i + 1).toNat).foldl (visF bud.toNat) ((entryW T.g q T.entry).take bud.toNat, []) = (S, R ++ [L.getD i.toNat 0]) := by
            rw [hf]; unfold visF; simp only; rw [if_neg hxS, if_pos hfull]
          have h25n' := h25'.ints.len
          refine sem_push' tInts (build_int _) (by decide) rfl (by simp [Value.oneCell']) h25' (by omega) (by omega) fun s41 u42 ho41 _ he41 hb41 _ => ⟨⟨by omega, by omega⟩, ⟨by omega, by omega, v0', by rw [hf2]; exact hj', ?_, ?_, fun g hg hg' => ?_⟩, by dsimp only; omega⟩
          · exact OwnF.else (e := 0) h21' he41 (fun g hg => h25'.fresh g hg) fun g hg e => hfar g e hg
          · rw [hf2]
            simp only [List.flatMap_append]
            exact ho41
          · rcases hb41 g hg' with h5 | h5
            · exact hfar g hg h5
            · exact own_known' h21' hg h5
        · obtain ⟨hne, hj'⟩ := hbt hb2
          have hf2 : (L.take (i + 1).toNat).foldl (visF bud.toNat) ((entryW T.g q T.entry).take bud.toNat, []) = (S ++ [L.getD i.toNat 0], R) := by
            rw [hf]; unfold visF; simp only; rw [if_neg hxS, if_neg hne]
          exact ⟨⟨by omega, by omega⟩, ⟨by omega, by omega, v0', by rw [hf2]; exact hj', h21', by rw [hf2]; exact h25', hfar⟩, by dsimp only; omega⟩
      · have hxS : L.getD i.toNat 0 ∈ S := by simpa using hb
        have hf2 : (L.take (i + 1).toNat).foldl (visF bud.toNat) ((entryW T.g q T.entry).take bud.toNat, []) = (S, R) := by
          rw [hf]; unfold visF; simp only; rw [if_pos hxS]
        exact ⟨⟨by omega, by omega⟩, ⟨by omega, by omega, v0, by rw [hf2]; exact hj0', h21, by rw [hf2]; exact h25, hfar⟩, by dsimp only; omega⟩
    · -- the answer
      have hie : i.toNat = L.length := by
        have : ¬ i < (s21.n : Int) := hig
        omega
      rw [hie, List.take_length] at hj0' h25 hRlen
      have hSF : L.foldl (visF bud.toNat) ((entryW T.g q T.entry).take bud.toNat, []) = srchF T.g q T.entry bud.toNat := by rw [← hL]; rfl
      rw [hSF] at hj0' h25 hRlen
      obtain ⟨S, hS⟩ : ∃ S, (srchF T.g q T.entry bud.toNat).1 = S := ⟨_, rfl⟩
      obtain ⟨R, hR⟩ : ∃ R, (srchF T.g q T.entry bud.toNat).2 = R := ⟨_, rfl⟩
      rw [hS] at hj0'
      rw [hR] at h25 hRlen
      rw [hS, hR] at hok
      have hSl : S.length ≤ 1000000 := by rw [← hS]; have := (srchF_ok hT hnd q bud.toNat).2.1; omega
      have huw : u.le v0 := huB.trans hBv0
      intro K43 hK43
      have h25m := h25.ints.len
      -- whatever order it was put together in
      have last : ∀ (nA : Nat) (sh ss : Sl) (y : H) (x1 x2 x3 : Value), w.le y → OwnF w y 66 3 sh ((topk k.toNat (S.map (hitG T.g q))).flatMap encH) → OwnF w y 3 1 ss ((sortI S).flatMap encI) → Far sh ss → w nA = none → sh.blk ≠ some nA → ss.blk ≠ some nA →
          y nA = some (.cells #[x1, x2, x3] 53 (0, 0)) → H.St y ⟨nA, 0, none⟩ [.slice sh.a sh.n sh.c, .slice ss.a ss.n ss.c, .slice none 0 0] fun z => K43 ⟨nA, 0, none⟩ z := by
        intro nA sh ss y x1 x2 x3 hwy hh hs hf hnA hshn hssn hy
        refine st_three hy (by simp [Value.oneCell']) ?_
        have hyk : ∀ c o, y c = some o → c ≠ nA → (y.ins nA (.cells #[.slice sh.a sh.n sh.c, .slice ss.a ss.n ss.c, .slice none 0 0] 53 (0, 0))) c = some o := fun c o h1 h2 => by rw [H.ins_other _ _ h2]; exact h1
        obtain ⟨z, hz⟩ : ∃ z, y.ins nA (.cells #[.slice sh.a sh.n sh.c, .slice ss.a ss.n ss.c, .slice none 0 0] 53 (0, 0)) = z := ⟨_, rfl⟩
        have hzA : z nA = some (.cells #[.slice sh.a sh.n sh.c, .slice ss.a ss.n ss.c, .slice none 0 0] 53 (0, 0)) := by rw [← hz, H.ins_same]
        rw [hz] at hyk ⊢
        have hunA : u nA = none := (huw.trans hv0w).none hnA
        have h25A : s25.blk ≠ some nA := fun e => own_known' h25 e hnA
        have hhz := ((hh.weaken (huw.trans hv0w)).skip hyk hshn hunA)
        have hsz := ((hs.weaken (huw.trans hv0w)).skip hyk hssn hunA)
        have h25z := (((h25.mono hwy).weaken huw).skip hyk h25A hunA)
        have hf1 : Far sh s25 := fun g hg hg' => own_known' h25 hg' (hh.fresh g hg)
        have hf2 : Far ss s25 := fun g hg hg' => own_known' h25 hg' (hs.fresh g hg)
        have hnilF : ∀ (x : Sl), Far x ⟨none, 0, 0⟩ := fun x g _ hg => by simp [Sl.blk] at hg
        have hFnil : ∀ (x : Sl), Far ⟨none, 0, 0⟩ x := fun x g hg => by simp [Sl.blk] at hg
        refine hK43 _ _ ⟨fun hpos => ?_, fun hnot => ?_⟩
        · refine sem_build (build_all s25) fun gr hgr => ?_
          have hgz := H.le_ins (u := z) (b := gr) (.cells [Value.int .i64 1, .slice none 0 0, .slice none 0 0, .int .u64 0, .int .u64 0, .slice s25.a s25.n s25.c].toArray 111 (0, 0)) hgr
          have hgA : gr ≠ nA := fun e => by rw [e, hzA] at hgr; cases hgr
          have hgr' : (z.ins gr (.cells [Value.int .i64 1, .slice none 0 0, .slice none 0 0, .int .u64 0, .int .u64 0, .slice s25.a s25.n s25.c].toArray 111 (0, 0))) gr = some (.cells [Value.int .i64 1, .slice none 0 0, .slice none 0 0, .int .u64 0, .int .u64 0, .slice s25.a s25.n s25.c].toArray 111 (0, 0)) := H.ins_same _ _ _
          obtain ⟨z2, hz2⟩ : ∃ z2, z.ins gr (.cells [Value.int .i64 1, .slice none 0 0, .slice none 0 0, .int .u64 0, .int .u64 0, .slice s25.a s25.n s25.c].toArray 111 (0, 0)) = z2 := ⟨_, rfl⟩
          rw [hz2] at hgz hgr' ⊢
          rw [Addr.add_lit, Nat.zero_add]
          refine ⟨_, _, hgz _ _ hzA, rfl, by simp, by simp [Value.oneCell'], ?_⟩
          have hzw : wr #[.slice sh.a sh.n sh.c, .slice ss.a ss.n ss.c, .slice none 0 0] 2 [.slice (some ⟨gr, 0, none⟩) 1 1] = #[.slice sh.a sh.n sh.c, .slice ss.a ss.n ss.c, .slice (⟨some ⟨gr, 0, none⟩, 1, 1⟩ : Sl).a (⟨some ⟨gr, 0, none⟩, 1, 1⟩ : Sl).n (⟨some ⟨gr, 0, none⟩, 1, 1⟩ : Sl).c] := by simp [wr]
          simp only [hzw]
          have hzk : ∀ c o, z2 c = some o → c ≠ nA → (z2.ins nA (.cells #[.slice sh.a sh.n sh.c, .slice ss.a ss.n ss.c, .slice (⟨some ⟨gr, 0, none⟩, 1, 1⟩ : Sl).a (⟨some ⟨gr, 0, none⟩, 1, 1⟩ : Sl).n (⟨some ⟨gr, 0, none⟩, 1, 1⟩ : Sl).c] 53 (0, 0))) c = some o := fun c o h1 h2 => by rw [H.ins_other _ _ h2]; exact h1
          obtain ⟨a0, a1, a2⟩ := cell_ans (H.ins_same z2 nA (.cells #[.slice sh.a sh.n sh.c, .slice ss.a ss.n ss.c, .slice (⟨some ⟨gr, 0, none⟩, 1, 1⟩ : Sl).a (⟨some ⟨gr, 0, none⟩, 1, 1⟩ : Sl).n (⟨some ⟨gr, 0, none⟩, 1, 1⟩ : Sl).c] 53 (0, 0)))
          have hRne : R ≠ [] := fun e => by rw [e] at h25m; simp at h25m; omega
          have hur : u gr = none := by
            have : u.le z := hhz.le
            exact this.none hgr
          have hgF : ∀ {e k : Nat} {x : Sl} {xs : List Value}, OwnF u z e k x xs → Far x ⟨some ⟨gr, 0, none⟩, 1, 1⟩ := fun hx g hg hg' => by
            have : gr = g := by simpa [Sl.blk] using hg'
            exact own_known' hx hg (by rw [← this]; exact hgr)
          have hrs : restAll s25 R = [allRgn s25 R] := if_neg hRne
          refine ⟨sh, a0, ss, a1, ⟨some ⟨gr, 0, none⟩, 1, 1⟩, a2, hok sh ss _ s25 _ ⟨(hhz.mono hgz).skip hzk hshn hunA, (hsz.mono hgz).skip hzk hssn hunA, ?_, fun r hr => ?_, ?_⟩⟩
          · rw [hrs]
            have e1 : ([allRgn s25 R] : List Rgn).flatMap encG = [Value.int .i64 1, .slice none 0 0, .slice none 0 0, .int .u64 0, .int .u64 0, .slice s25.a s25.n s25.c] := by simp [encG, allRgn, hiW0, loW0]
            rw [e1]
            refine ⟨⟨rfl, .inr ⟨gr, _, rfl, hzk _ _ hgr' hgA, Nat.le_refl _, by show (1 : Nat) ≤ 9223372036854775807; decide, by simp, by simp⟩⟩, fun c o hc => hzk c o (hgz c o (hhz.le c o hc)) fun e => (by rw [e, hunA] at hc; cases hc), fun g hg => ?_⟩
            have : gr = g := by simpa [Sl.blk] using hg
            rw [← this]; exact hur
          · rw [hrs] at hr
            simp at hr
            subst hr
            have hzle : u.le (z2.ins nA (.cells #[.slice sh.a sh.n sh.c, .slice ss.a ss.n ss.c, .slice (⟨some ⟨gr, 0, none⟩, 1, 1⟩ : Sl).a (⟨some ⟨gr, 0, none⟩, 1, 1⟩ : Sl).n (⟨some ⟨gr, 0, none⟩, 1, 1⟩ : Sl).c] 53 (0, 0))) := fun c o hc => hzk c o (hgz c o (hhz.le c o hc)) fun e => (by rw [e, hunA] at hc; cases hc)
            exact ⟨OwnF.nil hzle _ _, OwnF.nil hzle _ _, (h25z.mono hgz).skip hzk h25A hunA⟩
          · rw [hrs]
            show ([sh, ss, ⟨some ⟨gr, 0, none⟩, 1, 1⟩, ⟨none, 0, 0⟩, ⟨none, 0, 0⟩, s25] : List Sl).Pairwise Far
            simp only [List.pairwise_cons, List.mem_cons, List.not_mem_nil, or_false, forall_eq_or_imp, forall_eq, List.Pairwise.nil, and_true, false_implies, implies_true]
            exact ⟨⟨hf, hgF hhz, hnilF _, hnilF _, hf1⟩, ⟨hgF hsz, hnilF _, hnilF _, hf2⟩, ⟨hnilF _, hnilF _, (hgF h25z).symm⟩, ⟨hnilF _, hFnil _⟩, hFnil _⟩
        · have hRe : R = [] := by
            have : s25.n = 0 := by omega
            rw [this] at h25m
            exact List.eq_nil_of_length_eq_zero h25m.symm
          obtain ⟨a0, a1, a2⟩ := cell_ans (d := ⟨none, 0, 0⟩) hzA
          have hrs : restAll s25 R = [] := if_pos hRe
          refine ⟨sh, a0, ss, a1, ⟨none, 0, 0⟩, a2, hok sh ss _ s25 _ ⟨hhz, hsz, by rw [hrs]; exact OwnF.nil hhz.le _ _, fun r hr => (by rw [hrs] at hr; cases hr), ?_⟩⟩
          rw [hrs]
          show ([sh, ss, ⟨none, 0, 0⟩] : List Sl).Pairwise Far
          simp only [List.pairwise_cons, List.mem_cons, List.not_mem_nil, or_false, forall_eq_or_imp, forall_eq, List.Pairwise.nil, and_true, false_implies, implies_true]
          exact ⟨⟨hf, hnilF _⟩, hnilF _⟩
      obtain ⟨oj, hmj, htj⟩ := hj0'
      have htw := htj.mono hv0w
      have hmw : MapAt w M (S.map fun x => (x, Value.bool true)) := (hmj.mono htj.le).mono hv0w
      have c9 := H.cell?_of (hv0w _ _ (hBv0 _ _ hB9)) 0
      have c13 := H.cell?_of (hv0w _ _ (hBv0 _ _ hB13)) 0
      have farK : ∀ {x y : Sl} {z1 z2 z3 : H} {e1 k1 e2 k2 : Nat} {xs ys : List Value}, OwnF w z1 e1 k1 x xs → z1.le z2 → OwnF z2 z3 e2 k2 y ys → Far x y := fun hx hle hy g hg hg' => by
        obtain ⟨o, ho⟩ := Option.ne_none_iff_exists'.1 (own_known' hx hg)
        have := hy.fresh g hg'
        rw [hle _ _ ho] at this; cases this
      have notn : ∀ {x : Sl} {z1 z2 : H} {e k n : Nat} {xs : List Value}, OwnF w z1 e k x xs → z1.le z2 → z2 n = none → x.blk ≠ some n := fun hx hle hn hg => by
        obtain ⟨o, ho⟩ := Option.ne_none_iff_exists'.1 (own_known' hx hg)
        rw [hle _ _ ho] at hn; cases hn
      refine ⟨_, c9, _, c13, ⟨spec.topk_Heap__List htw fun s57 u58 ho57 => ⟨ho57.le, ?_, ?_⟩, fun n75 hn75 => ?_⟩⟩
      · refine vc.maps_Keys_map_int_bool_int_bool_ (some M) u58 _ fun nk hnk => ?_
        have lek := H.le_ins (u := u58) (b := nk) (.cells #[.map (some M)] 98 (0, 0)) hnk
        have hck : (u58.ins nk (.cells #[.map (some M)] 98 (0, 0))).cell? ⟨nk, 0, none⟩ = some (.map (some M)) := H.cell?_of (H.ins_same _ _ _) 0
        have hwk := ho57.le.trans lek
        refine ⟨sortedB (hmw.mono hwk) hck hSl fun s61 u62 ho61 n63 hn63 => ⟨(hwk.trans ho61.le).trans (H.le_ins _ hn63), ?_⟩, fun n65 hn65 => ⟨hwk.trans (H.le_ins _ hn65), ?_⟩⟩
        · have l63 := H.le_ins (u := u62) (b := n63) (.cells #[.slice none 0 0, .slice none 0 0, .slice none 0 0] 53 (0, 0)) hn63
          exact last n63 s57 s61 _ _ _ _ ((hwk.trans ho61.le).trans l63) (ho57.mono ((lek.trans ho61.le).trans l63)) ((ho61.weaken hwk).mono l63) (farK ho57 lek ho61) ((hwk.trans ho61.le).none hn63) (notn ho57 (lek.trans ho61.le) hn63) (notn (ho61.weaken hwk) (H.le.refl _) hn63) (H.ins_same _ _ _)
        · have l65 := H.le_ins (u := u58.ins nk (.cells #[.map (some M)] 98 (0, 0))) (b := n65) (.cells #[.slice none 0 0, .slice none 0 0, .slice none 0 0] 53 (0, 0)) hn65
          exact sortedB (hmw.mono (hwk.trans l65)) (H.cell?_mono l65 hck) hSl fun s66 u67 ho66 => last n65 s57 s66 _ _ _ _ ((hwk.trans l65).trans ho66.le) (ho57.mono ((lek.trans l65).trans ho66.le)) (ho66.weaken (hwk.trans l65)) (farK ho57 (lek.trans l65) ho66) (hwk.none hn65) (notn ho57 lek hn65)
            (fun e => by have := ho66.fresh n65 e; rw [H.ins_same] at this; cases this) (ho66.le _ _ (H.ins_same _ _ _))
      · intro n69 hn69
        have l69 := H.le_ins (u := u58) (b := n69) (.cells #[.slice none 0 0, .slice none 0 0, .slice none 0 0] 53 (0, 0)) hn69
        refine ⟨ho57.le.trans l69, vc.maps_Keys_map_int_bool_int_bool_ (some M) _ _ fun nk hnk => ?_⟩
        have lek := H.le_ins (b := nk) (.cells #[.map (some M)] 98 (0, 0)) hnk
        have hw69 := (ho57.le.trans l69).trans lek
        exact sortedB (hmw.mono hw69) (H.cell?_of (H.ins_same _ _ _) 0) hSl fun s72 u73 ho72 => last n69 s57 s72 _ _ _ _ (hw69.trans ho72.le) (ho57.mono ((l69.trans lek).trans ho72.le)) (ho72.weaken hw69) (farK ho57 (l69.trans lek) ho72) (ho57.le.none hn69) (notn ho57 (H.le.refl _) hn69)
          (fun e => by have := lek _ _ (H.ins_same u58 n69 (.cells #[.slice none 0 0, .slice none 0 0, .slice none 0 0] 53 (0, 0))); rw [ho72.fresh n69 e] at this; cases this) (ho72.le _ _ (lek _ _ (H.ins_same _ _ _)))
      · have l75 := H.le_ins (u := w) (b := n75) (.cells #[.slice none 0 0, .slice none 0 0, .slice none 0 0] 53 (0, 0)) hn75
        refine ⟨l75, spec.topk_Heap__List (htw.mono l75) fun s76 u77 ho76 => ⟨l75.trans ho76.le, vc.maps_Keys_map_int_bool_int_bool_ (some M) _ _ fun nk hnk => ?_⟩⟩
        have lek := H.le_ins (b := nk) (.cells #[.map (some M)] 98 (0, 0)) hnk
        have hw77 := (l75.trans ho76.le).trans lek
        exact sortedB (hmw.mono hw77) (H.cell?_of (H.ins_same _ _ _) 0) hSl fun s80 u81 ho80 => last n75 s76 s80 _ _ _ _ (hw77.trans ho80.le) ((ho76.weaken l75).mono (lek.trans ho80.le)) (ho80.weaken hw77) (farK (ho76.weaken l75) lek ho80) hn75
          (fun e => by have := ho76.fresh n75 e; rw [H.ins_same] at this; cases this)
          (fun e => by have := (ho76.le.trans lek) _ _ (H.ins_same w n75 (.cells #[.slice none 0 0, .slice none 0 0, .slice none 0 0] 53 (0, 0))); rw [ho80.fresh n75 e] at this; cases this)
          (ho80.le _ _ (lek _ _ (ho76.le _ _ (H.ins_same _ _ _))))
  -- the walk
  have hB14 := hj0.le hBM
  have hIn14 := hInB.mono hB14
  obtain ⟨_, _, _, _, e4⟩ := tree_cells hIn14.tr
  refine ⟨_, rfl, _, e4, fun hne => ?_, fun he0 => behind u14 ?_⟩
  · have hent : T.entry ∈ T.g.map (·.1) := by
      rcases hT.entry with ⟨_, h2⟩ | h2
      · exact absurd h2 hne
      · exact h2
    have hW : entryW T.g q T.entry = walkF T.g q 0 (startF T.g q T.entry 0) := if_neg hne
    have hWn := (entryW_ok hT q).1
    refine spec.hnsw_Tree__start hIn14.tr hT.k.ok hent (hqB.mono hB14) (by omega) ?_
    rw [hW] at hWn behind
    refine spec.hnsw_Tree__from hB14 hInB.tr hT.k.ok (startF_in hT.k.ok hent 0) hqB (by omega) (by omega)
      (fun i z => i ≤ bud.toNat ∧ SrJ B M nb k T.g q ((walkF T.g q 0 (startF T.g q T.entry 0)).take i) z) (fun z => SrJ B M nb k T.g q ((walkF T.g q 0 (startF T.g q T.entry 0)).take bud.toNat) z) (fun i z hz => hz.2.le hBM)
      (fun i x z K' hx hj kt kf => ?_) ⟨by omega, by simpa using hj0⟩ (fun z hz => ?_) fun z hz => behind z hz
    · have hx' : (walkF T.g q 0 (startF T.g q T.entry 0))[i]? = some x := hx
      have hil := (List.getElem?_eq_some_iff.1 hx').1
      have hlen : ((walkF T.g q 0 (startF T.g q T.entry 0)).take i).length = i := by rw [List.length_take]; omega
      refine srch_sees hBM k1 k2 bd0 hB0 hB9 hB13 hj.2 (fun hf => kf z ?_) (fun _ hin => ?_) fun hne' _ z' hz' => kt z' ⟨by have := hj.1; omega, ?_⟩
      · rw [hlen] at hf
        rw [← hf]; exact hj.2
      · exfalso
        obtain ⟨j, hj2, e⟩ := List.mem_iff_getElem.1 hin
        rw [hlen] at hj2
        have := List.pairwise_iff_getElem.1 hWn j i (by omega) hil hj2
        rw [List.getElem_take] at e
        rw [List.getElem?_eq_getElem hil] at hx'
        rw [e, Option.some.inj hx'] at this
        exact this rfl
      · rw [List.take_add_one, hx']
        exact hz'
    · refine behind z ?_
      obtain ⟨h1, h2⟩ := hz
      have h1' : (walkF T.g q 0 (startF T.g q T.entry 0)).length ≤ bud.toNat := h1
      have h2' : SrJ B M nb k T.g q ((walkF T.g q 0 (startF T.g q T.entry 0)).take (walkF T.g q 0 (startF T.g q T.entry 0)).length) z := h2
      rw [List.take_of_length_le (Nat.le_refl _)] at h2'
      rw [List.take_of_length_le h1']
      exact h2'
  · have hW : entryW T.g q T.entry = [] := if_pos he0
    rw [hW]
    simpa using hj0

end Go.Proofs.YtpbelkpfljhjlaaGreatDoor

/- VcIx -/
namespace Go.Proofs.YtpbelkpfljhjlaaGreatDoor

def ixRows (X : Tr) : List Pr := rowsG X.g

/-- An index in memory: D: the blocks that are its own, all made behind u0. -/
structure Ix (u0 u : H) (D : Nat → Prop) (b : Nat) (X : Tr) : Prop where
  ex : ∃ fp, (∀ c, D c ↔ fp c ≠ none) ∧ In u0 u fp b X ∧ TOk X

structure IxTurn (u : H) (D : Nat → Prop) (u' : H) (D' : Nat → Prop) : Prop where
  keep : ∀ c o, u c = some o → ¬ D c → u' c = some o
  grow : ∀ c, D' c → D c ∨ u c = none

theorem IxTurn.mono {u u' : H} {D : Nat → Prop} (h : u.le u') : IxTurn u D u' D := ⟨fun c o hc _ => h c o hc, fun _ h => .inl h⟩

theorem IxTurn.trans {u u1 u2 : H} {D D1 D2 : Nat → Prop} (h : IxTurn u D u1 D1) (k : IxTurn u1 D1 u2 D2) : IxTurn u D u2 D2 where
  keep c o hc hf := k.keep c o (h.keep c o hc hf) fun hd => by
    rcases h.grow c hd with h1 | h1
    · exact hf h1
    · rw [hc] at h1; cases h1
  grow c hc := by
    rcases k.grow c hc with h1 | h1
    · exact h.grow c h1
    · by_cases e : D c
      · exact .inl e
      · right
        cases e2 : u c with
        | none => rfl
        | some o => rw [h.keep c o e2 e] at h1; cases h1

/-- What is apart from an index stays. -/
theorem IxTurn.apart {u u' v : H} {D D' : Nat → Prop} (h : IxTurn u D u' D') (hv : v.le u) (hd : ∀ c, D c → v c = none) : v.le u' ∧ ∀ c, D' c → v c = none := by
  refine ⟨fun c o hc => h.keep c o (hv c o hc) fun e => ?_, fun c hc => ?_⟩
  · have := hd c e; rw [hc] at this; cases this
  · rcases h.grow c hc with h1 | h1
    · exact hd c h1
    · exact hv.none h1

theorem ix_of {u0 u : H} {fp : Nat → Option Tg} {b : Nat} {T : Tr} (h : In u0 u fp b T) (hT : TOk T) : Ix u0 u (fun c => fp c ≠ none) b T := ⟨fp, fun _ => Iff.rfl, h, hT⟩

theorem turn_ix {u u' : H} {fp fp' : Nat → Option Tg} {D : Nat → Prop} (hD : ∀ c, D c ↔ fp c ≠ none) (h : Turn u fp u' fp') : IxTurn u D u' (fun c => fp' c ≠ none) where
  keep c o hc hf := h.keep c o hc (by
    cases e : fp c with
    | none => rfl
    | some t => exact absurd ((hD c).2 (by rw [e]; simp)) hf)
  grow c hc := (h.grow c hc).imp (hD c).2 fun h => h

theorem Ix.base {u0 u : H} {D : Nat → Prop} {b : Nat} {X : Tr} (h : Ix u0 u D b X) : u0.le u ∧ (∀ c, D c → u0 c = none) ∧ ∀ c, D c → u c ≠ none := by
  obtain ⟨fp, h1, h2, _⟩ := h.ex
  exact ⟨h2.le, fun c hc => h2.out c ((h1 c).1 hc), fun c hc => h2.known c ((h1 c).1 hc)⟩

/-- An index is as it was where its own blocks are. -/
theorem Ix.same {u0 u u' : H} {D : Nat → Prop} {b : Nat} {X : Tr} (h : Ix u0 u D b X) (hu : ∀ c o, u c = some o → D c → u' c = some o) (hle : u0.le u') : Ix u0 u' D b X := by
  obtain ⟨fp, h1, h2, h3⟩ := h.ex
  exact ⟨fp, h1, h2.same (fun c o hc hf => hu c o hc ((h1 c).2 hf)) hle, h3⟩

theorem Ix.mono {u0 u u' : H} {D : Nat → Prop} {b : Nat} {X : Tr} (h : Ix u0 u D b X) (hu : u.le u') : Ix u0 u' D b X := h.same (fun c o hc _ => hu c o hc) (h.base.1.trans hu)

theorem Ix.rowsOk {u0 u : H} {D : Nat → Prop} {b : Nat} {X : Tr} (h : Ix u0 u D b X) : ((ixRows X).map (·.1)).Nodup := by
  obtain ⟨fp, _, h2, _⟩ := h.ex
  unfold ixRows
  rw [rowsG_ids]
  exact h2.tr.nodup

theorem spec.ix_Len {u0 u : H} {D : Nat → Prop} {b : Nat} {X : Tr} {K : Int → H → Prop} (h : Ix u0 u D b X) (hK : K (ixRows X).length u) : C.hnsw_Tree__Len (some ⟨b, 0, none⟩) u K := by
  obtain ⟨fp, _, h2, _⟩ := h.ex
  refine spec.hnsw_Tree__Len h2.tr ?_
  have : (ixRows X).length = X.g.length := by simp [ixRows, rowsG]
  rw [← this]; exact hK

theorem ix_mem (X : Tr) (id : Int) : (id ∈ X.g.map (·.1)) ↔ id ∈ (ixRows X).map (·.1) := by unfold ixRows; rw [rowsG_ids]

theorem spec.ix_Put {u0 u : H} {D : Nat → Prop} {b : Nat} {X : Tr} {id : Int} {t : Sl} {q : List Int} {K : Bool → Int → H → Prop} (h : Ix u0 u D b X) (hTab : TabU u0) (ht : Ints u t q) (hts : ∀ g, t.blk = some g → ¬ D g)
    (hbad : mayErr id q X.dim (decide (id ∈ (ixRows X).map (·.1))) (ixRows X).length ≠ 0 → K false (mayErr id q X.dim (decide (id ∈ (ixRows X).map (·.1))) (ixRows X).length) u)
    (hok : mayErr id q X.dim (decide (id ∈ (ixRows X).map (·.1))) (ixRows X).length = 0 → ∀ u' D' X', Ix u0 u' D' b X' → IxTurn u D u' D' → (ixRows X').Perm ((id, q) :: (ixRows X).filter fun x => x.1 != id) → X'.dim = X.dim → X'.links = X.links → K (decide (id ∉ (ixRows X).map (·.1))) 0 u') :
    C.hnsw_Tree__Put (some ⟨b, 0, none⟩) id t u K := by
  obtain ⟨fp, h1, h2, h3⟩ := h.ex
  have hl : (ixRows X).length = X.g.length := by simp [ixRows, rowsG]
  have hd : decide (id ∈ X.g.map (·.1)) = decide (id ∈ (ixRows X).map (·.1)) := decide_eq_decide.2 (ix_mem X id)
  have hd2 : decide (id ∉ X.g.map (·.1)) = decide (id ∉ (ixRows X).map (·.1)) := decide_eq_decide.2 (not_congr (ix_mem X id))
  refine spec.hnsw_Tree__Put h2 h3 hTab ht (fun g hg => ?_) (fun hne => ?_) fun he u' fp' T' hr => ?_
  · cases e : fp g with
    | none => rfl
    | some x => exact absurd ((h1 g).2 (by rw [e]; simp)) (hts g hg)
  · rw [hd, ← hl] at hne ⊢; exact hbad hne
  · rw [hd, ← hl] at he
    rw [hd2]
    exact hok he u' _ T' (ix_of hr.is hr.ok) (turn_ix h1 hr.turn) hr.rows hr.dim hr.links

theorem spec.ix_Delete {u0 u : H} {D : Nat → Prop} {b : Nat} {X : Tr} {id : Int} {K : Bool → Int → H → Prop} (h : Ix u0 u D b X) (hno : id ∉ (ixRows X).map (·.1) → ∀ u', u.le u' → K false 0 u')
    (hyes : id ∈ (ixRows X).map (·.1) → ∀ u' D' X', Ix u0 u' D' b X' → IxTurn u D u' D' → ixRows X' = (ixRows X).filter (fun x => x.1 != id) → X'.dim = X.dim → X'.links = X.links → K true 0 u') : C.hnsw_Tree__Delete (some ⟨b, 0, none⟩) id u K := by
  obtain ⟨fp, h1, h2, h3⟩ := h.ex
  refine spec.hnsw_Tree__Delete h2 h3 (fun hn => hno fun hm => getN_none.1 hn ((ix_mem X id).2 hm)) fun n hn u' fp' T' hr => hyes ((ix_mem X id).1 (List.mem_map.2 ⟨_, getN_mem hn, rfl⟩)) u' _ T' (ix_of hr.is hr.ok) (turn_ix h1 hr.turn) hr.rows hr.dim hr.links

theorem spec.ix_Rows {u0 u : H} {D : Nat → Prop} {b : Nat} {X : Tr} {K : Sl → H → Prop} (h : Ix u0 u D b X) (hK : ∀ s ls u', RowsO u u' s ls → (ls.map Rw.pr).Perm (ixRows X) → (ls.Pairwise fun a b => a.id ≤ b.id) → K s u') : C.hnsw_Tree__Rows (some ⟨b, 0, none⟩) u K := by
  obtain ⟨fp, _, h2, h3⟩ := h.ex
  exact spec.hnsw_Tree__Rows h2 h3 hK

def ixWay (X : Tr) (links : Int) : Prop := X.links = links

theorem spec.ix_Build {s : Sl} {l : List Rw} {dim links seed : Int} {u : H} {K : Option Addr → Int → H → Prop} (hs : Rws u s l) (hTab : TabU u) (hseed : U64 seed)
    (hbad : buildErr l dim links ≠ 0 → K none (buildErr l dim links) u) (hok : buildErr l dim links = 0 → ∀ b D X u', Ix u u' D b X → (ixRows X).Perm (l.map Rw.pr) → X.dim = dim → X.links = links → K (some ⟨b, 0, none⟩) 0 u') : C.hnsw_Build s dim links seed u K :=
  spec.hnsw_Build hs hTab hseed hbad fun he b _ T u' hr => hok he b _ T u' (ix_of hr.is hr.ok) hr.rows hr.dim hr.links

/-- What an index answers. -/
def ixH (X : Tr) (q : List Int) (k bud : Int) : List Hit := topk k.toNat ((srchF X.g q X.entry bud.toNat).1.map (hitG X.g q))
def ixS (X : Tr) (q : List Int) (bud : Int) : List Int := sortI (srchF X.g q X.entry bud.toNat).1
def ixR (X : Tr) (q : List Int) (bud : Int) : List (Int × Int × List Int × List Int × List Int) := if (srchF X.g q X.entry bud.toNat).2 = [] then [] else [(1, 0, [], [], (srchF X.g q X.entry bud.toNat).2)]

theorem restAll_core (si : Sl) (X : Tr) (q : List Int) (bud : Int) : (restAll si (srchF X.g q X.entry bud.toNat).2).map Rgn.core = ixR X q bud := by
  unfold restAll ixR
  split <;> rfl

theorem spec.ix_Search {u0 u : H} {D : Nat → Prop} {b : Nat} {X : Tr} {t : Sl} {q : List Int} {k bud : Int} {K : Sl → Sl → Sl → Int → H → Prop} (h : Ix u0 u D b X) (ht : Ints u t q)
    (hbad : askErr q X.dim k bud ≠ 0 → ∀ u', u.le u' → K ⟨none, 0, 0⟩ ⟨none, 0, 0⟩ ⟨none, 0, 0⟩ (askErr q X.dim k bud) u')
    (hok : askErr q X.dim k bud = 0 → ∀ sh ss sr rest u', AnsO u u' sh ss sr (ixH X q k bud) (ixS X q bud) rest → rest.map Rgn.core = ixR X q bud → K sh ss sr 0 u') : C.hnsw_Tree__Search (some ⟨b, 0, none⟩) t k bud u K := by
  obtain ⟨fp, _, h2, h3⟩ := h.ex
  exact spec.hnsw_Tree__Search h2 h3 ht hbad fun he sh ss sr si u' ha => hok he sh ss sr _ u' ha (restAll_core si X q bud)

theorem askErr_ok {q : List Int} {d k b : Int} : askErr q d k b = 0 ↔ vcheck q d = 0 ∧ 1 ≤ k ∧ k ≤ 64 ∧ 0 ≤ b ∧ b ≤ 1000000 := by
  unfold askErr
  by_cases h1 : vcheck q d = 0
  · rw [if_neg (by simpa using h1)]
    by_cases h2 : k < 1 ∨ 64 < k ∨ b < 0 ∨ 1000000 < b
    · rw [if_pos h2]; constructor
      · intro h; cases h
      · rintro ⟨_, h3⟩; omega
    · rw [if_neg h2]; exact ⟨fun _ => ⟨h1, by omega⟩, fun _ => rfl⟩
  · rw [if_pos h1]
    exact ⟨fun h => absurd h h1, fun h => absurd h.1 h1⟩

/-- Its answers are sound; it stops ahead of its budget only where it has seen all. -/
theorem ix_sound {u0 u : H} {D : Nat → Prop} {b : Nat} {X : Tr} (h : Ix u0 u D b X) {q : List Int} {k bud : Int} (he : askErr q X.dim k bud = 0) {L : List Rw} (hL : (L.map Rw.pr).Perm (ixRows X)) (hq : Qok L q) {rest : List Rgn} (hr : rest.map Rgn.core = ixR X q bud) :
    Sound L q k (ixH X q k bud) (ixS X q bud) rest ∧ ((ixS X q bud).length : Int) ≤ bud ∧ (((ixS X q bud).length : Int) = bud ∨ (ixS X q bud).length = L.length) := by
  obtain ⟨fp, _, h2, h3⟩ := h.ex
  obtain ⟨hv, k1, k2, b0, b1⟩ := askErr_ok.1 he
  have hnd := h2.tr.nodup
  obtain ⟨hp, hl, hf, hri⟩ := srchF_ok h3 hnd q bud.toNat
  obtain ⟨S, hS⟩ : ∃ S, (srchF X.g q X.entry bud.toNat).1 = S := ⟨_, rfl⟩
  obtain ⟨R, hR⟩ : ∃ R, (srchF X.g q X.entry bud.toNat).2 = R := ⟨_, rfl⟩
  unfold ixR at hr
  unfold ixH ixS
  rw [hS] at hp hl hf
  rw [hR] at hp hf hri hr
  rw [hS]
  have hids : (X.g.map (·.1)).Perm (L.map (·.id)) := by
    rw [ids_pr, ← rowsG_ids]
    exact (hL.map _).symm
  have hSn : S.Nodup := (List.nodup_append.1 (hp.nodup_iff.2 hnd)).1
  have hrest : rest.flatMap (·.ids) = R ∧ ∀ r ∈ rest, r.core = (1, 0, [], [], R) ∧ R ≠ [] := by
    by_cases e : R = []
    · rw [if_pos e] at hr
      have : rest = [] := by simpa using hr
      rw [this, e]
      exact ⟨rfl, fun r hr => by cases hr⟩
    · rw [if_neg e] at hr
      cases rest with
      | nil => simp at hr
      | cons r rs =>
        cases rs with
        | cons r2 rs2 => simp at hr
        | nil =>
          simp only [List.map_cons, List.map_nil, List.cons.injEq, and_true] at hr
          refine ⟨?_, fun r' hr' => ?_⟩
          · have : r.ids = R := congrArg (fun z => z.2.2.2.2) hr
            simp [this]
          · simp at hr'; rw [hr']; exact ⟨hr, e⟩
  have hitE : ∀ r ∈ L, hitG X.g q r.id = hitOf q r := fun r hrL => by
    have h5 : r.pr ∈ ixRows X := hL.mem_iff.1 (List.mem_map.2 ⟨r, hrL, rfl⟩)
    obtain ⟨x, hx, e⟩ := List.mem_map.1 h5
    have e1 : x.1 = r.id := congrArg Prod.fst e
    have e2 : x.2.v = r.v := congrArg Prod.snd e
    have h6 : getN X.g r.id = some x.2 := getN_eq hnd (by rw [← e1]; exact hx)
    unfold hitG hitOf
    rw [h6]
    simp only [e2]
  refine ⟨⟨sortI_rise hSn, fun r hr' => ?_, ?_, fun m hm hms => ?_⟩, ?_, ?_⟩
  · obtain ⟨hc, hne⟩ := hrest.2 r hr'
    have c1 : r.sh = 1 := congrArg (fun z => z.1) hc
    have c2 : r.rad = 0 := congrArg (fun z => z.2.1) hc
    have c3 : r.lo = [] := congrArg (fun z => z.2.2.1) hc
    have c4 : r.hi = [] := congrArg (fun z => z.2.2.2.1) hc
    have c5 : r.ids = R := congrArg (fun z => z.2.2.2.2) hc
    have hin : ∀ x ∈ R, x ∈ L.map (·.id) := fun x hx => hids.mem_iff.1 (hp.mem_iff.1 (List.mem_append_right _ hx))
    refine ⟨⟨hq.rows.dim, by rw [c5]; exact hri, fun x hx => ?_, .inl ⟨c1, c3, c4, c2⟩⟩, by rw [c5]; exact hne, fun x hx => ?_⟩
    · rw [c5] at hx
      obtain ⟨w, hw, rfl⟩ := List.mem_map.1 (hin x hx)
      exact hq.rows.id w hw
    · rw [c5] at hx
      obtain ⟨w, hw, rfl⟩ := List.mem_map.1 (hin x hx)
      exact ⟨w, hw, rfl, fun h => (by rw [c1] at h; cases h), fun h => (by rw [c1] at h; cases h)⟩
  · rw [hrest.1]
    exact (((sortI_perm S).append_right R).trans hp).trans hids
  · refine topk_eq ?_
    have h5 : (m.map (·.id)).Perm S := by rw [hms]; exact sortI_perm S
    have h6 : m.map (hitOf q) = (m.map (·.id)).map (hitG X.g q) := by
      rw [List.map_map]
      exact List.map_congr_left fun r hrm => (hitE r (hm r hrm)).symm
    rw [h6]
    exact (h5.map _).symm
  · rw [sortI_len]; omega
  · rw [sortI_len]
    by_cases e : R = []
    · right
      rw [e, List.append_nil] at hp
      have := (hp.trans hids).length_eq
      simpa using this
    · left
      have := hf e
      omega

end Go.Proofs.YtpbelkpfljhjlaaGreatDoor
