/- Texts of mine, joined by merge.py: VcPart, VcReg, VcAll, VcDone, VcMeans, VcBall, VcMaps, VcIxB, VcIv0, VcWalkS, VcSort2, VcOwn, VcIv1, VcRowF, VcIv2, VcIv3, VcIv4, VcIv5, VcConc, VcIv6. -/
import Derived.Test.YtljbcihbgeiacaaGreatMls6
import Derived.Laws.NewFold
import Derived.Maps.RangeRun
import Derived.Shelf.SlSortCmp.Whole1
set_option maxRecDepth 100000

/- VcPart -/
namespace Go.Proofs.YtljbcihbgeiacaaGreat

section
variable {α β : Type} [Inhabited α] [Inhabited β] {lt : α → α → Bool} {lt' : β → β → Bool} {f : α → β}

theorem getD_map' (hd : f default = default) (l : List α) (i : Nat) : (l.map f).getD i default = f (l.getD i default) := by
  rw [List.getD_eq_getElem?_getD, List.getD_eq_getElem?_getD, List.getElem?_map]
  cases l[i]? with
  | none => exact hd.symm
  | some x => rfl

omit [Inhabited α] [Inhabited β] in
theorem swapL_map (l : List α) (i j : Nat) : (swapL l i j).map f = swapL (l.map f) i j := by
  unfold swapL
  rw [List.getElem?_map, List.getElem?_map]
  cases l[i]? <;> cases l[j]? <;> simp [List.map_set]

theorem upF_map (hd : f default = default) (hl : ∀ a b, lt' (f a) (f b) = lt a b) : ∀ (j : Nat) (l : List α), (upF lt l j).map f = upF lt' (l.map f) j := by
  intro j
  induction j using Nat.strongRecOn with
  | ind j ih =>
    intro l
    unfold upF
    by_cases h : j = 0
    · rw [dif_pos h, dif_pos h]
    · rw [dif_neg h, dif_neg h, getD_map' hd, getD_map' hd, hl]
      split
      · rw [ih (pa j) (by unfold pa; omega), swapL_map]
      · rfl

theorem kidF_map (hd : f default = default) (hl : ∀ a b, lt' (f a) (f b) = lt a b) (n : Nat) (l : List α) (i : Nat) : kidF lt' n (l.map f) i = kidF lt n l i := by
  unfold kidF
  rw [getD_map' hd, getD_map' hd, hl]

theorem downH_map (hd : f default = default) (hl : ∀ a b, lt' (f a) (f b) = lt a b) (n : Nat) : ∀ (m : Nat) (i : Nat) (l : List α), n - i ≤ m → (downH lt n l i).map f = downH lt' n (l.map f) i := by
  intro m
  induction m with
  | zero =>
    intro i l h
    unfold downH
    rw [dif_neg (by omega), dif_neg (by omega)]
  | succ m ih =>
    intro i l h
    unfold downH
    by_cases hc : 2 * i + 1 < n
    · rw [dif_pos hc, dif_pos hc, kidF_map hd hl, getD_map' hd, getD_map' hd, hl]
      split
      · obtain ⟨_, _, _, hk⟩ := kidF_ok (lt := lt) (l := l) hc
        rw [ih _ _ (by omega), swapL_map]
      · rfl
    · rw [dif_neg hc, dif_neg hc]

theorem pushF_map (hd : f default = default) (hl : ∀ a b, lt' (f a) (f b) = lt a b) (l : List α) (y : α) : (pushF lt l y).map f = pushF lt' (l.map f) (f y) := by
  unfold pushF
  rw [upF_map hd hl, List.map_append, List.length_map]
  rfl

theorem popF_map (hd : f default = default) (hl : ∀ a b, lt' (f a) (f b) = lt a b) (l : List α) : (popF lt l).map f = popF lt' (l.map f) := by
  unfold popF
  rw [List.map_dropLast, downH_map hd hl _ _ _ _ (Nat.le_refl _), swapL_map, List.length_map]
end

/-! ### parts in memory -/

/-- A part at an address, its parts too. -/
inductive PartAt (u : H) : Nat → Pt → Prop where
  | mk {n : Nat} {p : Pt} (ls hs is rs ks : Sl) (rows : List Rw) (ps : List Nat)
      (cell : u n = some (.cells #[.int .i64 p.sh, .slice ls.a ls.n ls.c, .slice hs.a hs.n hs.c, .int .u64 (hiW p.rad), .int .u64 (loW p.rad), .slice is.a is.n is.c, .slice rs.a rs.n rs.c, .slice ks.a ks.n ks.c] 110 (0, 0)))
      (isn : is.n = 0) (lo : Ints u ls p.lo) (hi : Ints u hs p.hi) (at' : Rws u rs rows) (pr : rows.map Rw.pr = p.rows)
      (kids : Seg u ks 1 (ps.map fun n => .pointer (some ⟨n, 0, none⟩))) (len : ps.length = p.kids.length) (each : ∀ (i : Nat) m k, ps[i]? = some m → p.kids[i]? = some k → PartAt u m k) : PartAt u n p

theorem PartAt.mono {u u' : H} {n : Nat} {p : Pt} (h : PartAt u n p) (hu : u.le u') : PartAt u' n p := by
  induction h with
  | mk ls hs is rs ks rows ps cell isn lo hi at' pr kids len each ih =>
    exact .mk ls hs is rs ks rows ps (hu _ _ cell) isn (lo.mono hu) (hi.mono hu) (at'.mono hu) pr (kids.mono hu) len ih

/-- The queue of parts: where they lie. -/
structure PQ (v u : H) (n : Nat) (l : List Op1) : Prop where
  ex : ∃ L : List QE, QueSt v n u L ∧ L.map (·.2) = l ∧ ∀ e ∈ L, ∃ m, e.1 = ⟨m, 0, none⟩ ∧ PartAt v m e.2.2

/-- Pushing a part. -/
theorem spec.push_part {v u : H} {n m : Nat} {l : List Op1} {p : Pt} {b : Int} {K : H → Prop} (h : PQ v u n l) (hl : l.length < 1000000) (hp : PartAt v m p) (hK : ∀ u', PQ v u' n (pushF blt l (b, p)) → K u') :
    C.heap_Push (queV n) (queI ((⟨m, 0, none⟩ : Addr), (b, p))) u K := by
  obtain ⟨L, hQ, hL, hall⟩ := h.ex
  have hlen : L.length = l.length := by rw [← hL, List.length_map]
  refine spec.heap_PushF (queHeap v n) (y := ((⟨m, 0, none⟩ : Addr), ((b, p) : Op1))) (fun hk => que_push hQ (by omega) hk) fun u' hs => hK u' ⟨pushF qlt L ((⟨m, 0, none⟩ : Addr), ((b, p) : Op1)), hs, ?_, fun e he => ?_⟩
  · have e := pushF_map (α := QE) (β := Op1) (lt := qlt) (lt' := blt) (f := fun e : QE => e.2) rfl (fun _ _ => rfl) L ((⟨m, 0, none⟩ : Addr), ((b, p) : Op1))
    rw [hL] at e
    exact e
  · have hperm := upF_perm (lt := qlt) L.length (L ++ [((⟨m, 0, none⟩ : Addr), ((b, p) : Op1))]) (by simp)
    rcases List.mem_append.1 (hperm.mem_iff.1 he) with h1 | h1
    · exact hall e h1
    · have := List.mem_singleton.1 h1
      subst this
      exact ⟨m, rfl, hp⟩

/-- The closure that adds a part. -/
theorem spec.flat_Walk_1 {v u : H} {n m n0 : Nat} {s : Sl} {q : List Int} {l : List Op1} {p : Pt} {K : H → Prop} (h : PQ v u n l) (hv : v.le u) (hl : l.length < 1000000) (hp : PartAt v m p) (hok : RegOk (p.rgn []) q.length) (hq : vok q)
    (hn0 : u.cell? ⟨n0, 0, none⟩ = some (.slice s.a s.n s.c)) (hs : Ints u s q) (hK : ∀ u', PQ v u' n (addW q l p) → K u') : C.flat_Walk_1 (some ⟨m, 0, none⟩) ⟨n0, 0, none⟩ ⟨n, 0, none⟩ u K := by
  cases hp with
  | mk ls hs' is rs ks rows ps cell isn lo hi at' pr kids len each =>
  have hc := hv _ _ cell
  have hreg : RegOk (⟨p.sh, ls, hs', p.rad, is, p.lo, p.hi, []⟩ : Rgn) q.length := ⟨hok.dim, hok.ids, hok.id, hok.shape⟩
  apply vc.flat_Walk_1
  have push : C.heap_Push (queV n) (queI ((⟨m, 0, none⟩ : Addr), (nearR (p.rgn []) q, p))) u K := spec.push_part h hl (.mk ls hs' is rs ks rows ps cell isn lo hi at' pr kids len each) fun u' hu' => hK u' hu'
  have hnear : nearR (⟨p.sh, ls, hs', p.rad, is, p.lo, p.hi, []⟩ : Rgn) q = nearR (p.rgn []) q := rfl
  refine ⟨_, rfl, _, H.cell?_of hc 0, ls, H.cell?_of hc 1, hs', H.cell?_of hc 2, _, H.cell?_of hc 3, _, H.cell?_of hc 4, is, H.cell?_of hc 5, s, hn0, ?_, H.le.refl u, ?_⟩
  · exact spec.vec_Bound (r := ⟨p.sh, ls, hs', p.rad, is, p.lo, p.hi, []⟩) (lo.mono hv) (hi.mono hv) hreg isn hs hq ⟨H.le.refl u, push⟩
  · exact spec.vec_Bound (r := ⟨p.sh, ls, hs', p.rad, is, p.lo, p.hi, []⟩) (lo.mono hv) (hi.mono hv) hreg isn hs hq push

end Go.Proofs.YtljbcihbgeiacaaGreat

/- VcReg -/
namespace Go.Proofs.YtljbcihbgeiacaaGreat

theorem spec.flat_region {sh hw lw : Int} {ls hs is rs : Sl} {lo hi : List Int} {rows : List Rw} {u : H} {K : Int → Sl → Sl → Int → Int → Sl → H → Prop} (h1 : Ints u ls lo) (h2 : Ints u hs hi) (hr : Rws u rs rows) (b1 : lo.length ≤ 64) (b2 : hi.length ≤ 64) (b3 : rows.length ≤ 1000000)
    (hK : ∀ a b c u', OwnF u u' 3 1 a (lo.flatMap encI) → OwnF u u' 3 1 b (hi.flatMap encI) → OwnF u u' 3 1 c ((sortI (rows.map (·.id))).flatMap encI) → Far a b → Far a c → Far b c → K sh a b hw lw c u') : C.flat_region sh ls hs hw lw is rs u K := by
  have n1 := h1.len
  have n2 := h2.len
  have n3 := hr.len
  apply vc.flat_region
  refine spec.slices_Clone___int_int_ h1 (by omega) fun s0 u1 o1 _ => ⟨o1.le, spec.slices_Clone___int_int_ (h2.mono o1.le) (by omega) fun s2 u3 o2 _ => ?_⟩
  have hr3 := hr.mono (o1.le.trans o2.le)
  refine ⟨fun i x7 s8 s9 x10 x11 s12 w => 0 ≤ i ∧ i ≤ rs.n ∧ x7 = sh ∧ s8 = s0 ∧ s9 = s2 ∧ x10 = hw ∧ x11 = lw ∧ OwnF u3 w 3 1 s12 (((rows.take i.toNat).map (·.id)).flatMap encI), fun i _ _ _ _ _ _ _ => ((rs.n : Int) - i).toNat,
    ⟨by omega, by omega, rfl, rfl, rfl, rfl, rfl, by simpa using OwnF.nil (H.le.refl u3) 3 1⟩, ?_⟩
  rintro i x7 s8 s9 x10 x11 s12 w ⟨i0, i1, e1, e2, e3, e4, e5, ho⟩
  have hn12 := ho.ints.len
  rw [List.length_map, List.length_take] at hn12
  refine ⟨fun hi => ?_, fun hi => ?_⟩
  · obtain ⟨p, hp, r, hrr, c0, c1, _⟩ := (hr3.mono ho.le).at i0 hi
    refine ⟨p, hp, ⟨i0, hi⟩, _, c0, _, c1, sem_push' tInts (build_int _) (by decide) rfl (by simp [Value.oneCell']) ho (by omega) (by omega) fun s' u' ho2 hn2 hel hbl _ => ⟨⟨by omega, by omega⟩, ⟨by omega, by omega, e1, e2, e3, e4, e5, ?_⟩, by dsimp only; omega⟩⟩
    have e : rows.take (i + 1).toNat = rows.take i.toNat ++ [r] := by
      rw [show (i + 1).toNat = i.toNat + 1 by omega, List.take_add_one, hrr]
      rfl
    rw [e, List.map_append, List.flatMap_append]
    exact ho2
  · have hall : rows.take i.toNat = rows := List.take_of_length_le (by omega)
    rw [hall] at ho
    subst e1 e2 e3 e4 e5
    refine spec.slices_Sort___int_int_ ho (by simp; omega) fun u5 ho5 he5 => ?_
    have hf : ∀ g, s12.blk = some g → u3 g = none := ho.fresh
    have f13 : Far s8 s12 := OwnF.far (o1.mono o2.le) (H.le.refl u3) ho
    have f23 : Far s9 s12 := OwnF.far o2 (H.le.refl u3) ho
    have f12 : Far s8 s9 := OwnF.far o1 (H.le.refl u1) o2
    have l5 : u3.le u5 := ho5.le
    exact hK _ _ _ u5 ((o1.mono o2.le).mono l5) ((o2.weaken o1.le).mono l5) (ho5.weaken (o1.le.trans o2.le)) f12 f13 f23

end Go.Proofs.YtljbcihbgeiacaaGreat

/- VcAll -/
namespace Go.Proofs.YtljbcihbgeiacaaGreat

theorem build_rows00 : buildOf Tryz.prog 22 0 #[] = some (43, []) := by kernel_rfl

theorem flatR_one {l : List Rw} : ∀ y ∈ l.flatMap encR, y.oneCell' = true := by
  intro y hy
  obtain ⟨h, _, hy⟩ := List.mem_flatMap.1 hy
  exact encR_one h y hy

theorem spec.slices_Clone__api_Row_ {s : Sl} {l : List Rw} {u : H} {K : Sl → H → Prop} (hs : Seg u s 2 (l.flatMap encR)) (hb : s.n ≤ 1099511627776) (hK : ∀ s' u', OwnF u u' 43 2 s' (l.flatMap encR) → s'.n = s.n → K s' u') : C.slices_Clone__api_Row_ s u K := by
  apply vc.slices_Clone__api_Row_
  refine ⟨fun hn => ?_, fun _ => sem_clone tRows build_rows00 (by decide) hs flatR_one (by omega) hK⟩
  have hl := seg_nil hs hn
  have hl2 : s.n = 0 := by have := Seg.len hs; rw [hl] at this; simp at this; omega
  refine hK _ _ ?_ hl2.symm
  rw [hl]
  exact OwnF.nil (H.le.refl u) _ _

theorem allL_take_succ {ps : List Pt} {i : Nat} {k : Pt} (h : ps[i]? = some k) : Pt.allL (ps.take (i + 1)) = Pt.allL (ps.take i) ++ k.all := by
  rw [List.take_add_one, h, allL_flat, allL_flat]
  simp

theorem allL_take_le (ps : List Pt) (i : Nat) : (Pt.allL (ps.take i)).length ≤ (Pt.allL ps).length := by
  conv => rhs; rw [← List.take_append_drop i ps]
  rw [allL_flat, allL_flat, List.flatMap_append, List.length_append]
  omega

theorem spec.flat_Part__All {v : H} {n : Nat} {p : Pt} (hp : PartAt v n p) : ∀ {u : H} {K : Sl → H → Prop}, v.le u → p.all.length ≤ 1000000 →
    (∀ (s : Sl) (L : List Rw) (u' : H), OwnF u u' 43 2 s (L.flatMap encR) → L.map Rw.pr = p.all → (∀ r ∈ L, Ints v r.s r.v) → K s u') → C.flat_Part__All (some ⟨n, 0, none⟩) u K := by
  induction hp with
  | @mk n p ls hs is rs ks rows ps cell isn lo hi at' pr kids len each ih =>
  intro u K hv hb hK
  have hc := hv _ _ cell
  have hrl : p.rows.length = rows.length := by rw [← pr, List.length_map]
  rw [Pt.all_eq] at hb hK
  rw [List.length_append] at hb
  have hrn := at'.len
  apply vc.flat_Part__All
  refine ⟨_, rfl, rs, H.cell?_of hc 6, spec.slices_Clone__api_Row_ (Seg.mono at'.1 hv) (by omega) fun s2 u3 o2 _ => ⟨_, rfl, ks, H.cell?_of (o2.le _ _ hc) 7, ?_⟩⟩
  have hkm := Nat.le_trans (Seg.cap kids) (Seg.max kids)
  have hkn : ks.n = ps.length := by have := kids.len; simpa using this.symm
  refine ⟨fun s8 x w => 0 ≤ x ∧ x ≤ ks.n ∧ ∃ L : List Rw, OwnF u w 43 2 s8 (L.flatMap encR) ∧ L.map Rw.pr = p.rows ++ Pt.allL (p.kids.take x.toNat) ∧ ∀ r ∈ L, Ints v r.s r.v, fun _ x _ => ((ks.n : Int) - x).toNat,
    ⟨by omega, by omega, rows, o2, by simpa [Pt.allL] using pr, fun r hr => at'.2 r hr⟩, ?_⟩
  rintro s8 x w ⟨x0, x1, L, ho, hL, hI⟩
  refine ⟨fun hx => ?_, fun hx => ?_⟩
  · have hxl : x.toNat < ps.length := by omega
    obtain ⟨k, hk⟩ : ∃ k, p.kids[x.toNat]? = some k := ⟨_, List.getElem?_eq_getElem (by omega)⟩
    have hm : ps[x.toNat]? = some ps[x.toNat] := List.getElem?_eq_getElem hxl
    obtain ⟨a, ha, hcell⟩ := Seg.elem (enc := fun n : Nat => [Value.pointer (some ⟨n, 0, none⟩)]) (k := 1) (fun _ => rfl) (by decide) (xs := ps) (by
      have e : ps.flatMap (fun n : Nat => [Value.pointer (some ⟨n, 0, none⟩)]) = ps.map fun n => Value.pointer (some ⟨n, 0, none⟩) := by
        generalize ps = z
        induction z with
        | nil => rfl
        | cons y z ih => rw [List.flatMap_cons, List.map_cons, ih]; rfl
      rw [e]
      exact kids.mono (hv.trans ho.le)) hm
    have hall := allL_take_succ hk
    have hle := allL_take_le p.kids (x.toNat + 1)
    rw [hall, List.length_append] at hle
    have hLl := congrArg List.length hL
    rw [List.length_map, List.length_append] at hLl
    have hn8 : s8.n = L.length := flat_n encR_len (by decide) ho.own.seg
    refine ⟨a, ha, ⟨x0, hx⟩, _, hcell 0 _ rfl, ih _ _ _ hm hk (hv.trans ho.le) (by omega) fun s13 L2 u14 ho2 hL2 hI2 => ?_⟩
    have hl2 := congrArg List.length hL2
    rw [List.length_map] at hl2
    have hn13 := flat_n encR_len (by decide) ho2.own.seg
    refine sem_appendF tRows (by decide) (ho.mono ho2.le) ho2.own.seg flatR_one (by omega) (by omega) fun s15 u16 ho3 _ => ⟨⟨by omega, by omega⟩, ⟨by omega, by omega, L ++ L2, by rw [List.flatMap_append]; exact ho3, ?_, fun r hr => ?_⟩, by dsimp only; omega⟩
    · rw [List.map_append, hL, hL2, show (x + 1).toNat = x.toNat + 1 by omega, hall, List.append_assoc]
    · rcases List.mem_append.1 hr with h | h
      · exact hI r h
      · exact hI2 r h
  · rw [List.take_of_length_le (by omega)] at hL
    exact hK _ L w ho hL hI

end Go.Proofs.YtljbcihbgeiacaaGreat

/- VcDone -/
namespace Go.Proofs.YtljbcihbgeiacaaGreat

theorem spec.topk_Heap__Len {u : H} {n : Nat} {k : Int} {s : Sl} {K : Int → H → Prop} (hn : u n = some (.cells #[.int .i64 k, .slice s.a s.n s.c] 174 (0, 0))) (hK : K s.n u) : C.topk_Heap__Len (some ⟨n, 0, none⟩) u K := by
  apply vc.topk_Heap__Len
  exact ⟨fun e => (by cases e), fun _ => ⟨_, rfl, s, H.cell?_of hn 1, hK⟩⟩

/-- The last of a sorted list is the one that none is behind. -/
theorem srt_last {l : List Hit} (hs : Srt l) {x : Hit} (hx : x ∈ l) (hm : ∀ y ∈ l, hlt x y = false) : l.getD (l.length - 1) default = x := by
  have hl : 0 < l.length := List.length_pos_iff.2 fun e => by rw [e] at hx; cases hx
  obtain ⟨i, hi, rfl⟩ := List.getElem_of_mem hx
  have hl1 : l.length - 1 < l.length := by omega
  rw [List.getD_eq_getElem?_getD, List.getElem?_eq_getElem hl1]
  show l[l.length - 1] = l[i]
  by_cases e : i = l.length - 1
  · subst e; rfl
  · have h1 := List.pairwise_iff_getElem.1 hs i (l.length - 1) hi hl1 (by omega)
    exact hlt_eq (hm _ (List.getElem_mem hl1)) h1

theorem spec.flat_Walk_2 {u0 u : H} {N n4 : Nat} {k hi lo : Int} {S : List Hit} {K : Bool → H → Prop} (h : TopAt u0 N k u S) (k1 : 1 ≤ k) (hd : ∀ g ∈ S, Dok g.2) (hn4 : u.cell? ⟨n4, 0, none⟩ = some (.pointer (some ⟨N, 0, none⟩))) (_h1 : U64 hi) (h2 : U64 lo)
    (hK : ∀ bb : Bool, (bb = true ↔ k ≤ (S.length : Int) ∧ ((topk k.toNat S).getD (k.toNat - 1) default).2 < wv hi lo) → K bb u) : C.flat_Walk_2 hi lo ⟨n4, 0, none⟩ u K := by
  obtain ⟨l, hst, hh, hp⟩ := h
  obtain ⟨s, hn, ho, hne⟩ := hst.ex
  have hsn := ho.hts.len
  have hlen := hp.length_eq
  rw [topk_len] at hlen
  apply vc.flat_Walk_2
  refine ⟨_, hn4, ?_⟩
  apply vc.topk_Heap__Worst
  have full : ∀ {x2 x3 : Int}, U64 x3 → ((s.n : Int) = k → wv x2 x3 = ((topk k.toNat S).getD (k.toNat - 1) default).2) → C.topk_Heap__Full (some ⟨N, 0, none⟩) u (fun (b7 : Bool) (u8 : H) => ((b7 = Bool.true) → C.wide_Cmp hi lo x2 x3 u8 (fun (x9 : Int) (u10 : H) => K (decide ((0 : Int) < x9)) u10)) ∧ ((b7 = Bool.false) → K Bool.false u8)) := by
    intro x2 x3 hx3 hw
    apply vc.topk_Heap__Full
    refine ⟨fun _ => ⟨_, rfl, _, rfl, s, H.cell?_of hn 1, _, H.cell?_of hn 0, fun hb => ?_, fun hb => ?_⟩, fun e => (by cases e)⟩
    · have he := of_decide_eq_true hb
      refine spec.wide_Cmp h2 hx3 ?_
      rw [hw he]
      have hks : k ≤ (S.length : Int) := by omega
      have key : ∀ z : Int, (0 < z ↔ ((topk k.toNat S).getD (k.toNat - 1) default).2 < wv hi lo) → K (decide (0 < z)) u := fun z hz => hK _ (by rw [decide_eq_true_iff, hz]; exact ⟨fun h => ⟨hks, h⟩, fun h => h.2⟩)
      refine key _ ?_
      split
      · omega
      · split <;> omega
    · have he := of_decide_eq_false hb
      exact hK _ ⟨fun e => (by cases e), fun hc => by omega⟩
  refine spec.topk_Heap__Len hn ⟨fun h0 => ⟨_, hn4, full ⟨by omega, by omega⟩ fun e => by omega⟩, fun hne0 => ?_⟩
  obtain ⟨p, hpp, g, hg, c0, c1, c2⟩ := ho.hts.at (x := 0) (by omega) (by omega)
  have hg0 : l.getD 0 default = g := by
    rw [List.getD_eq_getElem?_getD]
    have : l[(0 : Int).toNat]? = some g := hg
    rw [show (0 : Int).toNat = 0 from rfl] at this
    rw [this]; rfl
  have hgl : g ∈ l := List.mem_of_getElem? hg
  have hgt : g ∈ topk k.toNat S := hp.mem_iff.1 hgl
  have hdg : Dok g.2 := hd g ((sortH_perm _).mem_iff.1 (List.mem_of_mem_take hgt))
  have e0 : p.add ((0 : Int).toNat * 3) = p.add 0 := rfl
  rw [e0] at c0 c1 c2
  refine ⟨_, rfl, s, H.cell?_of hn 1, p, hpp, ⟨by omega, by omega⟩, _, c0, _, c1, _, c2, _, hn4, full (loU _) fun e => ?_⟩
  rw [wv_hl]
  have hL : LtOk (fun a b : Hit => hlt b a) := ⟨fun a b h => hlt_asymm h, fun a b c h k => hlt_le_trans k h⟩
  have hmax : ∀ y ∈ topk k.toNat S, hlt g y = false := fun y hy => by
    have hyl := hp.mem_iff.2 hy
    obtain ⟨i, hi, rfl⟩ := List.getElem_of_mem hyl
    have h3 : hlt (l.getD 0 default) (l.getD i default) = false := hh.root hL i hi
    have e : l.getD i default = l[i] := by rw [List.getD_eq_getElem?_getD, List.getElem?_eq_getElem hi]; rfl
    rw [e, hg0] at h3
    exact h3
  have hl := srt_last (topk_srt k.toNat S) hgt hmax
  rw [topk_len] at hl
  rw [show k.toNat - 1 = min k.toNat S.length - 1 by omega, hl]

end Go.Proofs.YtljbcihbgeiacaaGreat

/- VcMeans -/
namespace Go.Proofs.YtljbcihbgeiacaaGreat

def encS (s : Sl) : List Value := [.slice s.a s.n s.c]
theorem encS_len (c : Sl × List Int) : (encS c.1).length = 1 := rfl

/-- Vectors in memory. -/
structure VcsAt (u : H) (s : Sl) (l : List (Sl × List Int)) : Prop where
  seg : Seg u s 1 (l.flatMap fun c => encS c.1)
  ints : ∀ c ∈ l, Ints u c.1 c.2

theorem VcsAt.mono {u u' : H} {s : Sl} {l : List (Sl × List Int)} (h : VcsAt u s l) (k : u.le u') : VcsAt u' s l := ⟨h.seg.mono k, fun c hc => (h.ints c hc).mono k⟩
theorem VcsAt.len {u : H} {s : Sl} {l : List (Sl × List Int)} (h : VcsAt u s l) : s.n = l.length := flat_n encS_len (by decide) h.seg
theorem VcsAt.at {u : H} {s : Sl} {l : List (Sl × List Int)} (h : VcsAt u s l) {x : Int} (h0 : 0 ≤ x) (h1 : x < (s.n : Int)) : ∃ p, s.a = some p ∧ ∃ c, l[x.toNat]? = some c ∧ c ∈ l ∧ u.cell? (p.add (x.toNat * 1)) = some (.slice c.1.a c.1.n c.1.c) ∧ Ints u c.1 c.2 := by
  have hn := h.len
  have hl : x.toNat < l.length := by omega
  have hx : l[x.toNat]? = some l[x.toNat] := List.getElem?_eq_getElem hl
  obtain ⟨p, hp, hc⟩ := Seg.elem encS_len (by decide) h.seg hx
  exact ⟨p, hp, _, hx, List.getElem_mem hl, hc 0 _ rfl, h.ints _ (List.getElem_mem hl)⟩

/-- Centres that may be, of a dimension. -/
structure CsOk (l : List (Sl × List Int)) (d : Int) : Prop where
  dim : 1 ≤ d ∧ d ≤ 64
  many : 0 < l.length ∧ l.length ≤ 64
  each : ∀ c ∈ l, (c.2.length : Int) = d ∧ vok c.2

theorem spec.kmeans_all {u : H} {s : Sl} {l : List (Sl × List Int)} {d : Int} {K : Int → H → Prop} (h : VcsAt u s l) (hd : 1 ≤ d ∧ d ≤ 64) (hc : ∀ c ∈ l, (c.2.length : Int) = d ∧ vok c.2) (hl : l.length ≤ 1000000) (hK : K 0 u) : C.kmeans_all s d u K := by
  have hn := h.len
  apply vc.kmeans_all
  refine ⟨fun _ x v => v = u ∧ 0 ≤ x, fun _ x _ => ((s.n : Int) - x).toNat, ⟨rfl, by omega⟩, ?_⟩
  rintro _ x v ⟨rfl, x0⟩
  refine ⟨fun hx => ?_, fun _ => hK⟩
  obtain ⟨p, hp, c, _, hcm, c0, hi⟩ := h.at x0 hx
  obtain ⟨e1, e2⟩ := hc c hcm
  exact ⟨p, hp, ⟨x0, hx⟩, _, c0, spec.vec_Check hi ⟨fun hne => absurd (vcheck_reg e2 e1 hd) hne, fun _ => ⟨⟨by omega, by omega⟩, ⟨rfl, by omega⟩, by dsimp only; omega⟩⟩⟩

theorem spec.kmeans_may {u : H} {s : Sl} {l : List (Sl × List Int)} {d : Int} {K : Int → H → Prop} (h : VcsAt u s l) (hc : CsOk l d) (hK : K 0 u) : C.kmeans_may s u K := by
  have hn := h.len
  have hm := hc.many
  apply vc.kmeans_may
  intro K0 h0
  refine ⟨fun hx => absurd hx (by omega), fun _ => ⟨fun hx => absurd hx (by omega), fun _ => h0 _ _ ?_⟩⟩
  obtain ⟨p, hp, c, _, hcm, c0, hi⟩ := h.at (x := 0) (by omega) (by omega)
  have hci := hi.len
  obtain ⟨e1, e2⟩ := hc.each c hcm
  refine ⟨p, hp, ⟨by omega, by omega⟩, _, c0, ?_⟩
  rw [show (c.1.n : Int) = d by omega]
  exact spec.kmeans_all h hc.dim hc.each (by omega) hK

/-- The first nearest of the first so many, and its distance. -/
def nearTo (cs : List (List Int)) (v : List Int) : Nat → Nat × Int
  | 0 => (0, 0)
  | n + 1 => if n = 0 ∨ sqTo (cs.getD n []) v v.length < (nearTo cs v n).2 then (n, sqTo (cs.getD n []) v v.length) else nearTo cs v n

theorem nearTo_lt (cs : List (List Int)) (v : List Int) : ∀ n, 0 < n → (nearTo cs v n).1 < n := by
  intro n
  induction n with
  | zero => intro h; omega
  | succ n ih =>
    intro _
    unfold nearTo
    split
    · exact Nat.lt_succ_self n
    · rename_i hc
      have := ih (by omega)
      omega

theorem spec.kmeans_near {u : H} {s t : Sl} {l : List (Sl × List Int)} {v : List Int} {d : Int} {K : Int → Int → Int → H → Prop} (h : VcsAt u s l) (hc : CsOk l d) (ht : Ints u t v) (hv : vok v) (hvd : (v.length : Int) = d)
    (hK : K (nearTo (l.map (·.2)) v l.length).1 (hiW (nearTo (l.map (·.2)) v l.length).2) (loW (nearTo (l.map (·.2)) v l.length).2) u) : C.kmeans_near s t u K := by
  have hn := h.len
  have hm := hc.many
  have z : U64 0 := ⟨by omega, by omega⟩
  have hd := hc.dim
  apply vc.kmeans_near
  refine ⟨fun a i x y w => w = u ∧ 0 ≤ i ∧ i ≤ s.n ∧ a = (nearTo (l.map (·.2)) v i.toNat).1 ∧ U64 x ∧ U64 y ∧ wv x y = (nearTo (l.map (·.2)) v i.toNat).2, fun _ i _ _ _ => ((s.n : Int) - i).toNat, ⟨rfl, by omega, by omega, rfl, z, z, rfl⟩, ?_⟩
  rintro a i x y w ⟨rfl, i0, i1, ea, hx, hy, hw⟩
  refine ⟨fun hi => ?_, fun hi => ?_⟩
  · obtain ⟨p, hp, c, hcx, hcm, c0, hci⟩ := h.at i0 hi
    obtain ⟨e1, e2⟩ := hc.each c hcm
    have eg : (l.map (·.2)).getD i.toNat [] = c.2 := by rw [List.getD_eq_getElem?_getD, List.getElem?_map, hcx]; rfl
    have hlen : c.2.length = v.length := by omega
    refine ⟨p, hp, ⟨i0, hi⟩, _, c0, spec.vec_Dist hci ht e2 (by omega) hv hlen fun x' y' hx' hy' hw' => ?_⟩
    rw [hlen] at hw'
    have step : nearTo (l.map (·.2)) v (i + 1).toNat = if i.toNat = 0 ∨ sqTo c.2 v v.length < (nearTo (l.map (·.2)) v i.toNat).2 then (i.toNat, sqTo c.2 v v.length) else nearTo (l.map (·.2)) v i.toNat := by
      rw [show (i + 1).toNat = i.toNat + 1 by omega]
      show (if _ then _ else _) = _
      rw [eg]
    have new : i.toNat = 0 ∨ sqTo c.2 v v.length < (nearTo (l.map (·.2)) v i.toNat).2 → InR (i + 1) ∧ (w = w ∧ 0 ≤ i + 1 ∧ i + 1 ≤ (s.n : Int) ∧ i = (nearTo (l.map (·.2)) v (i + 1).toNat).1 ∧ U64 x' ∧ U64 y' ∧ wv x' y' = (nearTo (l.map (·.2)) v (i + 1).toNat).2) ∧ ((s.n : Int) - (i + 1)).toNat < ((s.n : Int) - i).toNat := fun hc => by
      rw [step, if_pos hc]
      exact ⟨⟨by omega, by omega⟩, ⟨rfl, by omega, by omega, by show i = ((i.toNat : Nat) : Int); omega, hx', hy', hw'⟩, by omega⟩
    refine ⟨fun h0 => new (.inl (by omega)), fun h0 => spec.wide_Cmp hy' hy ?_⟩
    rw [hw, hw']
    by_cases hlt : sqTo c.2 v v.length < (nearTo (l.map (·.2)) v i.toNat).2
    · rw [if_pos hlt]
      exact ⟨fun _ => new (.inr hlt), fun hx => absurd (by decide) hx⟩
    · refine ⟨fun hx => absurd hx ?_, fun _ => ⟨⟨by omega, by omega⟩, ⟨rfl, by omega, by omega, ?_, hx, hy, ?_⟩, by dsimp only; omega⟩⟩
      · rw [if_neg hlt]; split <;> omega
      · rw [step, if_neg (by omega)]; exact ea
      · rw [step, if_neg (by omega)]; exact hw
  · have : i.toNat = l.length := by omega
    rw [this] at ea hw
    obtain ⟨g1, g2⟩ := wv_U hx hy
    rw [hw] at g1 g2
    rw [ea, g1, g2]
    exact hK

theorem spec.kmeans_Near {u : H} {s t : Sl} {l : List (Sl × List Int)} {v : List Int} {d : Int} {K : Int → Int → Int → Int → H → Prop} (h : VcsAt u s l) (hc : CsOk l d) (ht : Ints u t v) (hv : vok v) (hvd : (v.length : Int) = d)
    (hK : K (nearTo (l.map (·.2)) v l.length).1 (hiW (nearTo (l.map (·.2)) v l.length).2) (loW (nearTo (l.map (·.2)) v l.length).2) 0 u) : C.kmeans_Near s t u K := by
  have hn := h.len
  have hm := hc.many
  apply vc.kmeans_Near
  refine spec.kmeans_may h hc ⟨fun hx => absurd rfl hx, fun _ => ?_⟩
  obtain ⟨p, hp, c, _, hcm, c0, hi⟩ := h.at (x := 0) (by omega) (by omega)
  have hci := hi.len
  obtain ⟨e1, e2⟩ := hc.each c hcm
  refine ⟨p, hp, ⟨by omega, by omega⟩, _, c0, spec.vec_Check ht ⟨fun hx => absurd ?_ hx, fun _ => spec.kmeans_near h hc ht hv hvd hK⟩⟩
  rw [show (c.1.n : Int) = d by omega]
  exact vcheck_reg hv hvd hc.dim

end Go.Proofs.YtljbcihbgeiacaaGreat

/- VcBall -/
namespace Go.Proofs.YtljbcihbgeiacaaGreat

/-- The farthest of the first so many rows. -/
def radTo (c : List Int) (l : List Rw) : Nat → Int
  | 0 => 0
  | n + 1 => if radTo c l n < sqTo c (l.getD n ⟨0, ⟨none, 0, 0⟩, []⟩).v c.length then sqTo c (l.getD n ⟨0, ⟨none, 0, 0⟩, []⟩).v c.length else radTo c l n

theorem radTo_ge (c : List Int) (l : List Rw) : ∀ n, 0 ≤ radTo c l n ∧ ∀ i r, i < n → l[i]? = some r → sqTo c r.v c.length ≤ radTo c l n := by
  intro n
  induction n with
  | zero => exact ⟨Int.le_refl _, fun i r h => by omega⟩
  | succ n ih =>
    obtain ⟨h0, h1⟩ := ih
    unfold radTo
    have last : ∀ r, l[n]? = some r → l.getD n ⟨0, ⟨none, 0, 0⟩, []⟩ = r := fun r hr => by rw [List.getD_eq_getElem?_getD, hr]; rfl
    split
    · rename_i hlt
      refine ⟨by omega, fun i r hi hr => ?_⟩
      by_cases e : i = n
      · subst e; rw [last r hr]; exact Int.le_refl _
      · have := h1 i r (by omega) hr; omega
    · rename_i hge
      refine ⟨h0, fun i r hi hr => ?_⟩
      by_cases e : i = n
      · subst e; rw [last r hr] at hge; omega
      · exact h1 i r (by omega) hr

theorem radTo_ok {c : List Int} {l : List Rw} (hc : vok c) (hl : Rok l c.length) : ∀ n, n ≤ l.length → Dok (radTo c l n) := by
  intro n
  induction n with
  | zero => intro _; exact ⟨Int.le_refl _, (by decide : (0 : Int) < 340282366920938463463374607431768211456)⟩
  | succ n ih =>
    intro hn
    unfold radTo
    have hg : l.getD n ⟨0, ⟨none, 0, 0⟩, []⟩ ∈ l := by
      rw [List.getD_eq_getElem?_getD, List.getElem?_eq_getElem (by omega)]
      exact List.getElem_mem (by omega)
    obtain ⟨e1, e2⟩ := hl.v _ hg
    split
    · exact sqTo_ok hc e2 (by omega)
    · exact ih (by omega)

theorem spec.vec_Ball {s t : Sl} {c : List Int} {l : List Rw} {u : H} {K : Int → Sl → Sl → Int → Int → Sl → Int → H → Prop} (hs : Ints u s c) (hc : vok c) (ht : Rws u t l) (hl : Rok l c.length)
    (hK : ∀ s' i' u', OwnF u u' 3 1 s' (c.flatMap encI) → K 3 s' ⟨none, 0, 0⟩ (hiW (radTo c l l.length)) (loW (radTo c l l.length)) i' 0 u') : C.vec_Ball s t u K := by
  have hsn := hs.len
  have htn := ht.len
  have htm := ht.max
  have hd := hl.dim
  have h64 := hc.1
  have z : U64 0 := ⟨by omega, by omega⟩
  apply vc.vec_Ball
  refine spec.vec_Check hs ?_
  rw [hsn, vcheck_reg hc rfl hd]
  refine ⟨fun hx => absurd rfl hx, fun _ => spec.vec_ids ht hl fun i' u4 o4 => ⟨fun hx => absurd rfl hx, fun _ => ?_⟩⟩
  refine ⟨fun i x y w => w = u4 ∧ 0 ≤ i ∧ i ≤ t.n ∧ U64 x ∧ U64 y ∧ wv x y = radTo c l i.toNat, fun i _ _ _ => ((t.n : Int) - i).toNat, ⟨rfl, by omega, by omega, z, z, rfl⟩, ?_⟩
  rintro i x y w ⟨rfl, i0, i1, hx, hy, hw⟩
  refine ⟨fun hi => ?_, fun hi => ?_⟩
  · obtain ⟨p, hp, r, hr, c0, c1, hri⟩ := (ht.mono o4.le).at i0 hi
    have hrm := List.mem_of_getElem? hr
    obtain ⟨e1, e2⟩ := hl.v r hrm
    have eg : l.getD i.toNat ⟨0, ⟨none, 0, 0⟩, []⟩ = r := by rw [List.getD_eq_getElem?_getD, hr]; rfl
    have step : radTo c l (i + 1).toNat = if radTo c l i.toNat < sqTo c r.v c.length then sqTo c r.v c.length else radTo c l i.toNat := by
      rw [show (i + 1).toNat = i.toNat + 1 by omega]
      show (if _ then _ else _) = _
      rw [eg]
    refine ⟨p, hp, ⟨i0, hi⟩, _, c0, _, c1, spec.vec_far (hs.mono o4.le) hri hc e2 (by omega) fun x' y' hx' hy' hw' => spec.wide_Cmp hy' hy ?_⟩
    rw [hw, hw']
    by_cases hlt : radTo c l i.toNat < sqTo c r.v c.length
    · refine ⟨fun _ => ⟨⟨by omega, by omega⟩, ⟨rfl, by omega, by omega, hx', hy', by rw [step, if_pos hlt]; exact hw'⟩, by dsimp only; omega⟩, fun hx => absurd ?_ hx⟩
      rw [if_neg (by omega), if_pos hlt]
      decide
    · refine ⟨fun hx => absurd hx ?_, fun _ => ⟨⟨by omega, by omega⟩, ⟨rfl, by omega, by omega, hx, hy, by rw [step, if_neg hlt]; exact hw⟩, by dsimp only; omega⟩⟩
      rw [if_neg hlt]
      split <;> decide
  · have : i.toNat = l.length := by omega
    rw [this] at hw
    obtain ⟨g1, g2⟩ := wv_U hx hy
    rw [hw] at g1 g2
    refine spec.slices_Clone___int_int_ (hs.mono o4.le) (by omega) fun s' u' ho _ => ⟨ho.le, ?_⟩
    rw [g1, g2]
    exact hK _ _ _ (ho.weaken o4.le)

end Go.Proofs.YtljbcihbgeiacaaGreat

/- VcMaps -/
namespace Go.Proofs.YtljbcihbgeiacaaGreat

/-- What an entry tells. -/
def MapEntry.kv (e : MapEntry) : Value × Value := (e.key, e.val)
def kvOf (p : Int × Value) : Value × Value := (.int .i64 p.1, p.2)

/-- A map's entries: their keys and values in the order of their births. -/
structure Ents (es : Array MapEntry) (clock : Nat) (l : List (Int × Value)) : Prop where
  kv : es.toList.map MapEntry.kv = l.map kvOf
  born : (es.toList.map (·.born)).Nodup
  lt : ∀ e ∈ es.toList, e.born < clock
  nodup : (l.map (·.1)).Nodup

def MapAt (u : H) (b : Nat) (l : List (Int × Value)) : Prop := ∃ es clock, u b = some (.map es clock) ∧ Ents es clock l

theorem MapAt.mono {u u' : H} {b : Nat} {l : List (Int × Value)} (h : MapAt u b l) (hu : u.le u') : MapAt u' b l := by
  obtain ⟨es, c, h1, h2⟩ := h
  exact ⟨es, c, hu _ _ h1, h2⟩

theorem MapAt.else {u u' : H} {b : Nat} {l : List (Int × Value)} (h : MapAt u b l) (hu : ∀ o, u b = some o → u' b = some o) : MapAt u' b l := by
  obtain ⟨es, c, h1, h2⟩ := h
  exact ⟨es, c, hu _ h1, h2⟩

def getL (l : List (Int × Value)) (x : Int) : Option Value := (l.find? fun p => p.1 == x).map (·.2)

theorem getL_none {l : List (Int × Value)} {x : Int} : getL l x = none ↔ x ∉ l.map (·.1) := by
  unfold getL
  rw [Option.map_eq_none_iff, List.find?_eq_none]
  simp only [beq_iff_eq, List.mem_map, Prod.exists, exists_and_right, exists_eq_right, not_exists, Prod.forall]
  exact ⟨fun h v hm => h x v hm rfl, fun h a b hm e => h b (e ▸ hm)⟩

theorem findNow_get (x : Int) : ∀ (es : List MapEntry) (l : List (Int × Value)) (i : Nat), es.map MapEntry.kv = l.map kvOf →
    (getL l x = none → Instr.findNow (.int .i64) (.int .i64 x) es i = some none) ∧ (∀ v, getL l x = some v → ∃ j, Instr.findNow (.int .i64) (.int .i64 x) es i = some (some (i + j, v)) ∧ l[j]? = some (x, v)) := by
  intro es
  induction es with
  | nil =>
    intro l i h
    have : l = [] := by simpa using h.symm
    subst this
    exact ⟨fun _ => rfl, fun v hv => (by simp [getL] at hv)⟩
  | cons e es ih =>
    intro l i h
    cases l with
    | nil => simp at h
    | cons y l =>
      simp only [List.map_cons, List.cons.injEq, MapEntry.kv, kvOf, Prod.mk.injEq] at h
      obtain ⟨⟨hk, hv⟩, hr⟩ := h
      obtain ⟨i1, i2⟩ := ih l (i + 1) hr
      unfold Instr.findNow
      rw [hk, hv]
      simp only [Instr.sameNow, if_true]
      by_cases hxy : y.1 = x
      · have hb : (x == y.1) = true := by simpa using hxy.symm
        have hg : getL (y :: l) x = some y.2 := by simp [getL, hxy]
        rw [hb, hg]
        refine ⟨fun h => (by cases h), fun v hv => ⟨0, ?_, ?_⟩⟩
        · cases hv; rfl
        · cases hv; simp [← hxy]
      · have hb : (x == y.1) = false := by simpa using fun h => hxy h.symm
        have hg : getL (y :: l) x = getL l x := by
          have : (y.1 == x) = false := by simpa using hxy
          simp [getL, this]
        rw [hb, hg]
        refine ⟨i1, fun v hv => ?_⟩
        obtain ⟨j, h1, h2⟩ := i2 v hv
        exact ⟨j + 1, by rw [h1, show i + 1 + j = i + (j + 1) by omega], by simpa using h2⟩

structure MapTy (P : Program) (t k e : TypeId) (z : Value) : Prop where
  ty : P.underlying t = some (.map k e)
  key : P.underlying k = some (.int .i64)
  zero : ∀ w, (zeroValue e).run P w = .ok z w

theorem MapTy.check {P : Program} {t k e : TypeId} {z : Value} (T : MapTy P t k e z) (b : Bool) (x : Int) (w : World) : (Instr.checkKey b 10000 k (.int .i64 x)).run P w = .ok () w := by
  show (Instr.checkKey b (9999 + 1) k (.int .i64 x)).run P w = .ok () w
  unfold Instr.checkKey
  simp [Sem.run_bind, run_underlying T.key, Result.andThen]

theorem MapTy.find {P : Program} {t k e : TypeId} {z : Value} (T : MapTy P t k e z) {es : Array MapEntry} {l : List (Int × Value)} (h : es.toList.map MapEntry.kv = l.map kvOf) (x : Int) (w : World) :
    (getL l x = none → (Instr.findKey k (.int .i64 x) es.toList).run P w = .ok none w) ∧ (∀ v, getL l x = some v → ∃ j, (Instr.findKey k (.int .i64 x) es.toList).run P w = .ok (some (j, v)) w ∧ l[j]? = some (x, v)) := by
  obtain ⟨h1, h2⟩ := findNow_get x es.toList l 0 h
  constructor
  · intro hx
    simp [Instr.findKey, Sem.run_bind, run_underlying T.key, Result.andThen, h1 hx]
  · intro v hv
    obtain ⟨j, hj, hl⟩ := h2 v hv
    rw [Nat.zero_add] at hj
    exact ⟨j, by simp [Instr.findKey, Sem.run_bind, run_underlying T.key, Result.andThen, hj], hl⟩

theorem SemT.two' {P : Program} {m : Sem Value} {c d : CT} {u : H} {K : c.den → d.den → H → Prop} (x : c.den) (y : d.den) (h : ∀ w, Sub u w → m.run P w = .ok (.tuple #[c.enc x, d.enc y]) w) (hK : K x y u) : SemT P m [.one c, .one d] u K := by
  intro w hw
  exact ⟨_, w, u, h w hw, ⟨[c.enc x, d.enc y], .cons x (.cons y .nil), rfl, (CT.un_enc c x _).2 ((CT.un_enc d y _).2 hK)⟩, Step.refl hw⟩

theorem sem_get2 {P : Program} {t k e : TypeId} {z : Value} (T : MapTy P t k e z) {u : H} {b : Nat} {l : List (Int × Value)} (h : MapAt u b l) {x : Int} {ct : CT} (y : ct.den) (hy : (getL l x).getD z = ct.enc y) {K : ct.den → Bool → H → Prop} (hK : K y (getL l x).isSome u) :
    SemT P (Instr.lookup t (.map (some b)) (.int .i64 x) true) [.one ct, .one .bool] u K := by
  obtain ⟨es, c, hb, hl⟩ := h
  refine SemT.two' (c := ct) (d := .bool) y _ (fun w hw => ?_) hK
  have hg := MapKept.run_getObj_map (P := P) (hw _ _ hb)
  have hc := T.check es.isEmpty x w
  obtain ⟨f1, f2⟩ := T.find hl.kv x w
  cases hx : getL l x with
  | none =>
    rw [hx] at hy
    have hy' : z = ct.enc y := hy
    simp [Instr.lookup, Sem.run_bind, run_underlying T.ty, hg, hc, f1 hx, Result.andThen, T.zero, hy', CT.enc]
  | some v =>
    rw [hx] at hy
    have hy' : v = ct.enc y := hy
    obtain ⟨j, hj, _⟩ := f2 v hx
    simp [Instr.lookup, Sem.run_bind, run_underlying T.ty, hg, hc, hj, Result.andThen, hy', CT.enc]

theorem sem_put {P : Program} {t k e : TypeId} {z : Value} (T : MapTy P t k e z) {u : H} {b : Nat} {l : List (Int × Value)} (h : MapAt u b l) {x : Int} {v : Value} (hx : getL l x = none) {K : H → Prop}
    (hK : ∀ o, MapAt (u.ins b o) b (l ++ [(x, v)]) → K (u.ins b o)) :
    SemT P (unit (Instr.mapUpdate t (.map (some b)) (.int .i64 x) v)) [] u K := by
  obtain ⟨es, c, hb, hl⟩ := h
  intro w hw
  have hg := MapKept.run_getObj_map (P := P) (hw _ _ hb)
  have hj := (T.find hl.kv x w).1 hx
  have hc := T.check false x w
  have hset := MapKept.run_setObj_map (P := P) (.map (es.push { key := .int .i64 x, val := v, born := c }) (c + 1)) (hw _ _ hb)
  refine ⟨_, _, u.ins b (.map (es.push { key := .int .i64 x, val := v, born := c }) (c + 1)), ?_, ⟨[], .nil, rfl, hK _ ⟨_, _, H.ins_same _ _ _, ?_, ?_, ?_, ?_⟩⟩, step_block hw hb _⟩
  · simp [unit, Instr.mapUpdate, Sem.run_bind, run_underlying T.ty, hg, hc, hj, Result.andThen, hset]
    rfl
  · simp [hl.kv, MapEntry.kv, kvOf]
  · rw [Array.toList_push, List.map_append]
    refine List.nodup_append.2 ⟨hl.born, by simp, fun a ha d hd => ?_⟩
    obtain ⟨e', he, rfl⟩ := List.mem_map.1 ha
    have := hl.lt e' he
    simp only [List.map_cons, List.map_nil, List.mem_singleton] at hd
    omega
  · intro e' he
    rw [Array.toList_push] at he
    rcases List.mem_append.1 he with he | he
    · have := hl.lt e' he; omega
    · obtain rfl : e' = _ := by simpa using he
      exact Nat.lt_succ_self c
  · rw [List.map_append]
    refine List.nodup_append.2 ⟨hl.nodup, by simp, fun a ha d hd => ?_⟩
    have := getL_none.1 hx
    simp only [List.map_cons, List.map_nil, List.mem_singleton] at hd
    exact fun e => this (by rw [← hd, ← e]; exact ha)

theorem erase_filter {l : List (Int × Value)} (hn : (l.map (·.1)).Nodup) {j : Nat} {x : Int} {v : Value} (h : l[j]? = some (x, v)) : l.eraseIdx j = l.filter fun p => p.1 != x := by
  induction l generalizing j with
  | nil => simp at h
  | cons p l ih =>
    have h3 := List.nodup_cons.1 hn
    cases j with
    | zero =>
      simp only [List.getElem?_cons_zero, Option.some.injEq] at h
      subst h
      have : l.filter (fun p => p.1 != x) = l := List.filter_eq_self.2 fun q hq => by
        have : q.1 ≠ x := fun e => h3.1 (List.mem_map.2 ⟨q, hq, e⟩)
        simpa using this
      simp [this]
    | succ j =>
      simp only [List.getElem?_cons_succ] at h
      have hp : p.1 ≠ x := fun e => h3.1 (List.mem_map.2 ⟨_, List.mem_of_getElem? h, e.symm⟩)
      rw [List.eraseIdx_cons_succ, ih h3.2 h, List.filter_cons_of_pos (by simpa using hp)]

theorem sem_del {P : Program} {t k e T' kT : TypeId} {z : Value} (T : MapTy P t k e z) {u : H} {b : Nat} {l : List (Int × Value)} (h : MapAt u b l) {x : Int} {K : H → Prop}
    (hK : ∀ o, MapAt (u.ins b o) b (l.filter fun p => p.1 != x) → K (u.ins b o)) :
    SemT P (Builtin.delete_ #[t, kT] T' #[.map (some b), .int .i64 x]) [] u K := by
  obtain ⟨es, c, hb, hl⟩ := h
  intro w hw
  have hg := MapKept.run_getObj_map (P := P) (hw _ _ hb)
  have hc := T.check es.isEmpty x w
  obtain ⟨f1, f2⟩ := T.find hl.kv x w
  cases hx : getL l x with
  | none =>
    have hset := MapKept.run_setObj_map (P := P) (.map es c) (hw _ _ hb)
    have hf : l.filter (fun p => p.1 != x) = l := List.filter_eq_self.2 fun q hq => by
      have : q.1 ≠ x := fun e => getL_none.1 hx (List.mem_map.2 ⟨q, hq, e⟩)
      simpa using this
    refine ⟨_, _, u.ins b (.map es c), ?_, ⟨[], .nil, rfl, hK _ ⟨_, _, H.ins_same _ _ _, by rw [hf]; exact hl⟩⟩, step_block hw hb _⟩
    simp [Builtin.delete_, Sem.run_bind, run_underlying T.ty, hg, hc, f1 hx, Result.andThen, hset]
    rfl
  | some v =>
    obtain ⟨j, hj, hlj⟩ := f2 v hx
    have hset := MapKept.run_setObj_map (P := P) (.map (es.eraseIdxIfInBounds j) c) (hw _ _ hb)
    have het : (es.eraseIdxIfInBounds j).toList = es.toList.eraseIdx j := by simp
    have hsub : (es.toList.eraseIdx j).Sublist es.toList := List.eraseIdx_sublist _ _
    refine ⟨_, _, u.ins b (.map (es.eraseIdxIfInBounds j) c), ?_, ⟨[], .nil, rfl, hK _ ⟨_, _, H.ins_same _ _ _, ?_, ?_, ?_, ?_⟩⟩, step_block hw hb _⟩
    · simp [Builtin.delete_, Sem.run_bind, run_underlying T.ty, hg, hc, hj, Result.andThen, hset]
      rfl
    · have key : ∀ {α β : Type} (f : α → β) (L : List α) (j : Nat), (L.eraseIdx j).map f = (L.map f).eraseIdx j := by
        intro α β f L
        induction L with
        | nil => intro j; rfl
        | cons a L ih => intro j; cases j with
          | zero => rfl
          | succ j => simp [ih j]
      rw [het, key, hl.kv, ← key, erase_filter hl.nodup hlj]
    · rw [het]; exact hl.born.sublist (hsub.map _)
    · intro e' he; rw [het] at he; exact hl.lt e' (hsub.mem he)
    · exact hl.nodup.sublist (List.Sublist.map _ List.filter_sublist)

theorem sem_maplen {P : Program} {t k e T' : TypeId} {z : Value} (T : MapTy P t k e z) {u : H} {b : Nat} {l : List (Int × Value)} (h : MapAt u b l) {K : Int → H → Prop} (hK : K l.length u) :
    SemT P (Builtin.len_ #[t] T' #[.map (some b)]) [.one (.int .i64)] u K := by
  obtain ⟨es, c, hb, hl⟩ := h
  have hlen : es.size = l.length := by have := congrArg List.length hl.kv; simpa using this
  refine .one' (c := .int .i64) (l.length : Int) (fun w hw => ?_) hK
  have hg := MapKept.run_getObj_map (P := P) (hw _ _ hb)
  simp [Builtin.len_, Sem.run_bind, run_underlying T.ty, hg, Result.andThen, hlen]
  rfl

theorem sem_mkmap {P : Program} {t : TypeId} {u : H} {K : Option Nat → H → Prop} (hK : ∀ b o, u b = none → MapAt (u.ins b o) b [] → K (some b) (u.ins b o)) : SemT P (Instr.makeMap t none) [.one .map] u K :=
  .one (c := .map) fun w hw => ⟨some w.heap.size, _, _, Go.RowKit.run_makeMap t w, hK _ _ (hw.none (Nat.le_refl _)) ⟨#[], 0, H.ins_same _ _ _, rfl, by simp, by simp, by simp⟩, Step.newKnown hw _⟩

/-! ### ranges -/

end Go.Proofs.YtljbcihbgeiacaaGreat

/- VcIxB -/
namespace Go.Proofs.YtljbcihbgeiacaaGreat

def H0 : H := fun _ => none
theorem H0_le (u : H) : H0.le u := fun _ _ h => by cases h

theorem Own.f {u : H} {e k : Nat} {s : Sl} {xs : List Value} (h : Own u e k s xs) : OwnF H0 u e k s xs := ⟨h, H0_le u, fun _ _ => rfl⟩

/-- What is known but for a slice's block. -/
def H.sans (u : H) (s : Sl) : H := fun c => open Classical in if s.blk = some c then none else u c
theorem sans_at {u : H} {s : Sl} {c : Nat} (h : s.blk ≠ some c) : H.sans u s c = u c := if_neg h
theorem sans_le (u : H) (s : Sl) : (H.sans u s).le u := fun c o h => by
  unfold H.sans at h
  split at h
  · cases h
  · exact h
theorem sans_of {u : H} {s : Sl} {c : Nat} {o : Obj} (h : H.sans u s c = some o) : u c = some o ∧ s.blk ≠ some c := by
  unfold H.sans at h
  split at h
  · cases h
  · rename_i e; exact ⟨h, e⟩

section
variable {Tg Tr : Type}

/-- What lies in memory stays where its blocks do. -/
structure KeepG (A : (Nat → Option Tg) → H → Nat → Tr → Prop) : Prop where
  keep : ∀ {fp fp' : Nat → Option Tg} {u u' : H} {b : Nat} {T : Tr}, A fp u b T → (∀ c, fp c ≠ none → fp' c = fp c) → (∀ c o, u c = some o → fp c ≠ none → u' c = some o) → A fp' u' b T

/-- In memory, all of its blocks made behind u0. -/
structure InG (A : (Nat → Option Tg) → H → Nat → Tr → Prop) (u0 u : H) (fp : Nat → Option Tg) (b : Nat) (T : Tr) : Prop where
  tr : A fp u b T
  le : u0.le u
  out : ∀ c, fp c ≠ none → u0 c = none
  known : ∀ c, fp c ≠ none → u c ≠ none

/-- It has turned: what is not its own is as it was. -/
structure TurnG (u : H) (fp : Nat → Option Tg) (u' : H) (fp' : Nat → Option Tg) : Prop where
  keep : ∀ c o, u c = some o → fp c = none → u' c = some o
  grow : ∀ c, fp' c ≠ none → fp c ≠ none ∨ u c = none

variable {A : (Nat → Option Tg) → H → Nat → Tr → Prop}

omit A in
theorem TurnG.mono {u u' : H} {fp : Nat → Option Tg} (h : u.le u') : TurnG u fp u' fp := ⟨fun c o hc _ => h c o hc, fun _ h => .inl h⟩

omit A in
theorem TurnG.off {u u' : H} {fp fp' : Nat → Option Tg} (h : TurnG u fp u' fp') {c : Nat} {o : Obj} (hc : u c = some o) (hf : fp c = none) : fp' c = none := by
  cases e : fp' c with
  | none => rfl
  | some t =>
    rcases h.grow c (by rw [e]; simp) with h1 | h1
    · exact absurd hf h1
    · rw [hc] at h1; cases h1

omit A in
theorem TurnG.trans {u u1 u2 : H} {fp fp1 fp2 : Nat → Option Tg} (h : TurnG u fp u1 fp1) (k : TurnG u1 fp1 u2 fp2) : TurnG u fp u2 fp2 where
  keep c o hc hf := k.keep c o (h.keep c o hc hf) (h.off hc hf)
  grow c hc := by
    rcases k.grow c hc with h1 | h1
    · exact h.grow c h1
    · cases e : fp c with
      | some x => exact .inl (by simp)
      | none =>
        cases e2 : u c with
        | none => exact .inr rfl
        | some o => rw [h.keep c o e2 e] at h1; cases h1

omit A in
/-- Blocks that were unknown at first come to be its own. -/
theorem TurnG.tag {u u' : H} {fp fp' fp2 : Nat → Option Tg} (h : TurnG u fp u' fp') (k : ∀ c, fp2 c = fp' c ∨ fp c ≠ none ∨ u c = none) : TurnG u fp u' fp2 where
  keep := h.keep
  grow c hc := by
    rcases k c with h1 | h1
    · rw [h1] at hc; exact h.grow c hc
    · exact h1

theorem InG.same (hk : KeepG A) {u0 u u' : H} {fp : Nat → Option Tg} {b : Nat} {T : Tr} (h : InG A u0 u fp b T) (hu : ∀ c o, u c = some o → fp c ≠ none → u' c = some o) (hle : u0.le u') : InG A u0 u' fp b T :=
  ⟨hk.keep h.tr (fun _ _ => rfl) hu, hle, h.out, fun c hc => by
    obtain ⟨o, ho⟩ := Option.ne_none_iff_exists'.1 (h.known c hc)
    rw [hu c o ho hc]; simp⟩

theorem InG.mono (hk : KeepG A) {u0 u u' : H} {fp : Nat → Option Tg} {b : Nat} {T : Tr} (h : InG A u0 u fp b T) (hu : u.le u') : InG A u0 u' fp b T := h.same hk (fun c o hc _ => hu c o hc) (h.le.trans hu)

theorem InG.fresh {u0 u : H} {fp : Nat → Option Tg} {b : Nat} {T : Tr} (h : InG A u0 u fp b T) {c : Nat} (hc : u c = none) : fp c = none := by
  cases e : fp c with
  | none => rfl
  | some t => exact absurd hc (h.known c (by rw [e]; simp))

/-- Blocks that are nobody's yet come to be its own. -/
theorem InG.tag (hk : KeepG A) {u0 u : H} {fp : Nat → Option Tg} {b : Nat} {T : Tr} (h : InG A u0 u fp b T) (S : Nat → Option Tg) (hs : ∀ c, S c ≠ none → fp c = none ∧ u0 c = none ∧ u c ≠ none) :
    ∃ fp', InG A u0 u fp' b T ∧ (∀ c t, S c = some t → fp' c = some t) ∧ (∀ c, S c = none → fp' c = fp c) := by
  let fp' : Nat → Option Tg := fun c => match S c with | some t => some t | none => fp c
  have e1 : ∀ c t, S c = some t → fp' c = some t := fun c t hc => by simp only [fp', hc]
  have e2 : ∀ c, S c = none → fp' c = fp c := fun c hc => by simp only [fp', hc]
  have e3 : ∀ c, fp c ≠ none → fp' c = fp c := fun c hc => by
    cases e : S c with
    | none => exact e2 c e
    | some t => exact absurd (hs c (by rw [e]; simp)).1 hc
  refine ⟨fp', ⟨hk.keep h.tr e3 fun _ _ ho _ => ho, h.le, fun c hc => ?_, fun c hc => ?_⟩, e1, e2⟩
  · cases e : S c with
    | none => rw [e2 c e] at hc; exact h.out c hc
    | some t => exact (hs c (by rw [e]; simp)).2.1
  · cases e : S c with
    | none => rw [e2 c e] at hc; exact h.known c hc
    | some t => exact (hs c (by rw [e]; simp)).2.2

/-- A slice's block as blocks of a kind. -/
def Sl.tags (s : Sl) (t : Tg) : Nat → Option Tg := fun c => if s.blk = some c then some t else none

omit A in
theorem Sl.tags_at {s : Sl} {t : Tg} {c : Nat} (h : s.blk = some c) : s.tags t c = some t := if_pos h
omit A in
theorem Sl.tags_not {s : Sl} {t : Tg} {c : Nat} (h : s.blk ≠ some c) : s.tags t c = none := if_neg h
omit A in
theorem Sl.tags_ne {s : Sl} {t : Tg} {c : Nat} (h : s.tags t c ≠ none) : s.blk = some c := by
  by_cases e : s.blk = some c
  · exact e
  · exact absurd (Sl.tags_not e) h

/-- An index in memory: D: the blocks that are its own, all made behind u0. -/
structure IxG (A : (Nat → Option Tg) → H → Nat → Tr → Prop) (Ok : Tr → Prop) (u0 u : H) (D : Nat → Prop) (b : Nat) (X : Tr) : Prop where
  ex : ∃ fp, (∀ c, D c ↔ fp c ≠ none) ∧ InG A u0 u fp b X ∧ Ok X

end

structure IxTurn (u : H) (D : Nat → Prop) (u' : H) (D' : Nat → Prop) : Prop where
  keep : ∀ c o, u c = some o → ¬ D c → u' c = some o
  grow : ∀ c, D' c → D c ∨ u c = none

/-- What is apart from an index stays. -/
theorem IxTurn.apart {u u' v : H} {D D' : Nat → Prop} (h : IxTurn u D u' D') (hv : v.le u) (hd : ∀ c, D c → v c = none) : v.le u' ∧ ∀ c, D' c → v c = none := by
  refine ⟨fun c o hc => h.keep c o (hv c o hc) fun e => ?_, fun c hc => ?_⟩
  · have := hd c e; rw [hc] at this; cases this
  · rcases h.grow c hc with h1 | h1
    · exact hd c h1
    · exact hv.none h1

section
variable {Tg Tr : Type} {A : (Nat → Option Tg) → H → Nat → Tr → Prop} {Ok : Tr → Prop}

theorem ixg_of {u0 u : H} {fp : Nat → Option Tg} {b : Nat} {T : Tr} (h : InG A u0 u fp b T) (hT : Ok T) : IxG A Ok u0 u (fun c => fp c ≠ none) b T := ⟨fp, fun _ => Iff.rfl, h, hT⟩

omit A Ok in
theorem turn_ixg {u u' : H} {fp fp' : Nat → Option Tg} {D : Nat → Prop} (hD : ∀ c, D c ↔ fp c ≠ none) (h : TurnG u fp u' fp') : IxTurn u D u' (fun c => fp' c ≠ none) where
  keep c o hc hf := h.keep c o hc (by
    cases e : fp c with
    | none => rfl
    | some t => exact absurd ((hD c).2 (by rw [e]; simp)) hf)
  grow c hc := (h.grow c hc).imp (hD c).2 fun h => h

theorem IxG.base {u0 u : H} {D : Nat → Prop} {b : Nat} {X : Tr} (h : IxG A Ok u0 u D b X) : u0.le u ∧ (∀ c, D c → u0 c = none) ∧ ∀ c, D c → u c ≠ none := by
  obtain ⟨fp, h1, h2, _⟩ := h.ex
  exact ⟨h2.le, fun c hc => h2.out c ((h1 c).1 hc), fun c hc => h2.known c ((h1 c).1 hc)⟩

/-- An index is as it was where its own blocks are. -/
theorem IxG.same (hk : KeepG A) {u0 u u' : H} {D : Nat → Prop} {b : Nat} {X : Tr} (h : IxG A Ok u0 u D b X) (hu : ∀ c o, u c = some o → D c → u' c = some o) (hle : u0.le u') : IxG A Ok u0 u' D b X := by
  obtain ⟨fp, h1, h2, h3⟩ := h.ex
  exact ⟨fp, h1, h2.same hk (fun c o hc hf => hu c o hc ((h1 c).2 hf)) hle, h3⟩

theorem IxG.mono (hk : KeepG A) {u0 u u' : H} {D : Nat → Prop} {b : Nat} {X : Tr} (h : IxG A Ok u0 u D b X) (hu : u.le u') : IxG A Ok u0 u' D b X := h.same hk (fun c o hc _ => hu c o hc) (h.base.1.trans hu)

theorem IxG.rebase {u0 u v : H} {D : Nat → Prop} {b : Nat} {X : Tr} (h : IxG A Ok u0 u D b X) (hv : v.le u0) : IxG A Ok v u D b X := by
  obtain ⟨fp, h1, h2, h3⟩ := h.ex
  exact ⟨fp, h1, ⟨h2.tr, hv.trans h2.le, fun c hc => by
    cases hx : v c with
    | none => rfl
    | some o => have := hv _ _ hx; rw [h2.out c hc] at this; exact (nomatch this), h2.known⟩, h3⟩

end

end Go.Proofs.YtljbcihbgeiacaaGreat

/- VcIv0 -/
namespace Go.Proofs.YtljbcihbgeiacaaGreat.Iv

/-- What a block is for. -/
inductive Tg where
  | tree | carr | cvec | larr | list (i : Nat) | vec | map

/-- A tree: its dimension, its centres, its lists, where each row is. -/
structure Tr where
  dim : Int
  sc : Sl
  cs : List (Sl × List Int)
  sl : Sl
  ls : List (Sl × List Rw)
  m : Nat
  w : List (Int × Nat)

def Tr.links (T : Tr) : List (List Int) := T.cs.map (·.2)

def treeC (T : Tr) : List Value := [.int .i64 T.dim, .slice T.sc.a T.sc.n T.sc.c, .slice T.sl.a T.sl.n T.sl.c, .map (some T.m)]
def whereL (w : List (Int × Nat)) : List (Int × Value) := w.map fun x => (x.1, .int .i64 x.2)

/-- A list: of one's own, or full. -/
structure LsAt (u : H) (s : Sl) (l : List Rw) : Prop where
  seg : Seg u s 2 (l.flatMap encR)
  own : Own u 43 2 s (l.flatMap encR) ∨ s.n = s.c

structure TrAt (fp : Nat → Option Tg) (u : H) (b : Nat) (T : Tr) : Prop where
  cell : u b = some (.cells (treeC T).toArray 98 (0, 0))
  btag : fp b = some .tree
  carr : Seg u T.sc 1 (T.cs.flatMap fun c => encS c.1)
  cblk : ∀ g, T.sc.blk = some g → fp g = some .carr
  cvec : ∀ (i : Nat) c, T.cs[i]? = some c → Ints u c.1 c.2 ∧ ∀ g, c.1.blk = some g → fp g = some .cvec
  larr : Own u 22 1 T.sl (T.ls.flatMap fun l => encS l.1)
  lblk : ∀ g, T.sl.blk = some g → fp g = some .larr
  list : ∀ i l, T.ls[i]? = some l → LsAt u l.1 l.2 ∧ (∀ g, l.1.blk = some g → fp g = some (.list i)) ∧ ∀ r ∈ l.2, Ints u r.s r.v ∧ ∀ g, r.s.blk = some g → fp g = some .vec
  map : MapAt u T.m (whereL T.w)
  mtag : fp T.m = some .map

theorem LsAt.keep {u u' : H} {s : Sl} {l : List Rw} (h : LsAt u s l) (hu : ∀ c o, s.blk = some c → u c = some o → u' c = some o) : LsAt u' s l :=
  ⟨Seg.else h.seg fun g o hg ho => hu g o hg ho, h.own.imp (fun ho => ho.le fun b o hb hub => hu b o hb hub) id⟩

theorem TrAt.keep {fp fp' : Nat → Option Tg} {u u' : H} {b : Nat} {T : Tr} (h : TrAt fp u b T) (hf : ∀ c, fp c ≠ none → fp' c = fp c) (hu : ∀ c o, u c = some o → fp c ≠ none → u' c = some o) : TrAt fp' u' b T where
  cell := hu _ _ h.cell (by rw [h.btag]; simp)
  btag := by rw [hf _ (by rw [h.btag]; simp)]; exact h.btag
  carr := Seg.else h.carr fun g o hg ho => hu g o ho (by rw [h.cblk g hg]; simp)
  cblk g hg := by rw [hf _ (by rw [h.cblk g hg]; simp)]; exact h.cblk g hg
  cvec i c hc := ⟨Seg.else (h.cvec i c hc).1 fun g o hg ho => hu g o ho (by rw [(h.cvec i c hc).2 g hg]; simp), fun g hg => by rw [hf _ (by rw [(h.cvec i c hc).2 g hg]; simp)]; exact (h.cvec i c hc).2 g hg⟩
  larr := h.larr.le fun g o hg ho => hu g o ho (by rw [h.lblk g hg]; simp)
  lblk g hg := by rw [hf _ (by rw [h.lblk g hg]; simp)]; exact h.lblk g hg
  list i l hl := by
    obtain ⟨h1, h2, h3⟩ := h.list i l hl
    refine ⟨h1.keep fun g o hg ho => hu g o ho (by rw [h2 g hg]; simp), fun g hg => by rw [hf _ (by rw [h2 g hg]; simp)]; exact h2 g hg, fun r hr => ?_⟩
    obtain ⟨h4, h5⟩ := h3 r hr
    exact ⟨Seg.else h4 fun g o hg ho => hu g o ho (by rw [h5 g hg]; simp), fun g hg => by rw [hf _ (by rw [h5 g hg]; simp)]; exact h5 g hg⟩
  map := h.map.else fun o ho => hu _ _ ho (by rw [h.mtag]; simp)
  mtag := by rw [hf _ (by rw [h.mtag]; simp)]; exact h.mtag

theorem keep : KeepG TrAt := ⟨fun h h1 h2 => h.keep h1 h2⟩

abbrev In := InG TrAt

/-- What must hold of a tree. -/
structure TOk (T : Tr) : Prop where
  dm : 1 ≤ T.dim ∧ T.dim ≤ 64
  many : T.cs.length = T.ls.length ∧ 0 < T.cs.length ∧ T.cs.length ≤ 64
  cvok : ∀ c ∈ T.cs, (c.2.length : Int) = T.dim ∧ vok c.2
  vec : ∀ l ∈ T.ls, ∀ r ∈ l.2, (r.v.length : Int) = T.dim ∧ vok r.v
  ids : ∀ l ∈ T.ls, ∀ r ∈ l.2, 1 ≤ r.id ∧ r.id ≤ 1000000000
  nodup : ((T.ls.flatMap (·.2)).map (·.id)).Nodup
  wh : ∀ id i, (id, i) ∈ T.w ↔ ∃ l, T.ls[i]? = some l ∧ id ∈ l.2.map (·.id)
  wlen : T.w.length = (T.ls.flatMap (·.2)).length
  small : T.w.length ≤ 512
  near : ∀ i l, T.ls[i]? = some l → ∀ r ∈ l.2, (nearTo (T.cs.map (·.2)) r.v T.cs.length).1 = i

def ixRows (X : Tr) : List (Int × List Int) := (X.ls.flatMap (·.2)).map Rw.pr

end Go.Proofs.YtljbcihbgeiacaaGreat.Iv

/- VcWalkS -/
namespace Go.Proofs.YtljbcihbgeiacaaGreat

/-- What a region of a part tells, with ids of rows. -/
def coreW (x : Pt × List Prw) : Int × Int × List Int × List Int × List Int := (x.1.sh, x.1.rad, x.1.lo, x.1.hi, sortI (x.2.map (·.1)))

theorem core_rgn {r : Rgn} {p : Pt} {rows : List Prw} (h : r.core = coreW (p, rows)) : r.sh = p.sh ∧ r.rad = p.rad ∧ r.lo = p.lo ∧ r.hi = p.hi ∧ r.ids = sortI (rows.map (·.1)) := by
  simp only [Rgn.core, coreW, Prod.mk.injEq] at h
  exact ⟨h.1, h.2.1, h.2.2.1, h.2.2.2.1, h.2.2.2.2⟩

theorem near_core {r : Rgn} {p : Pt} {rows : List Prw} (h : r.core = coreW (p, rows)) (q : List Int) : nearR r q = nearR (p.rgn []) q := by
  obtain ⟨h1, h2, h3, h4, _⟩ := core_rgn h
  unfold nearR Pt.rgn
  simp only [h1, h2, h3, h4]

theorem inside_core {r : Rgn} {p : Pt} {rows : List Prw} (h : r.core = coreW (p, rows)) {v : List Int} (hi : Inside (p.rgn []) v) : Inside r v := by
  obtain ⟨h1, h2, h3, h4, _⟩ := core_rgn h
  unfold Inside Pt.rgn at *
  simp only [h1, h2, h3, h4] at *
  exact hi

theorem reg_core {r : Rgn} {p : Pt} {rows : List Prw} {d : Int} (h : r.core = coreW (p, rows)) (hp : RegOk (p.rgn []) d) (hn : (rows.map (·.1)).Nodup) (hid : ∀ x ∈ rows, 1 ≤ x.1 ∧ x.1 ≤ 1000000000) : RegOk r d := by
  obtain ⟨h1, h2, h3, h4, h5⟩ := core_rgn h
  refine ⟨hp.dim, by rw [h5]; exact sortI_rise hn, fun x hx => ?_, ?_⟩
  · rw [h5] at hx
    obtain ⟨y, hy, rfl⟩ := List.mem_map.1 ((sortI_perm _).mem_iff.1 hx)
    exact hid y hy
  · have := hp.shape
    unfold Pt.rgn at this
    simp only at this
    rw [h1, h2, h3, h4]
    exact this

theorem pick_rows {L : List Rw} : ∀ {S : List Prw}, (∀ x ∈ S, x ∈ L.map Rw.pr) → ∃ m : List Rw, m.map Rw.pr = S ∧ ∀ r ∈ m, r ∈ L := by
  intro S
  induction S with
  | nil => intro _; exact ⟨[], rfl, fun r hr => by cases hr⟩
  | cons x S ih =>
    intro h
    obtain ⟨m, h1, h2⟩ := ih fun y hy => h y (List.mem_cons_of_mem _ hy)
    obtain ⟨r, hr, e⟩ := List.mem_map.1 (h x (List.mem_cons_self ..))
    exact ⟨r :: m, by rw [List.map_cons, h1, e], fun y hy => by
      rcases List.mem_cons.1 hy with rfl | hy
      · exact hr
      · exact h2 y hy⟩

theorem left_flat (s : WS) : (leftW s).flatMap (·.2) = s.rest.flatMap (·.2) ++ s.heap.flatMap fun x => x.2.all := by
  unfold leftW
  rw [List.flatMap_append]
  congr 1
  generalize s.heap = l
  induction l with
  | nil => rfl
  | cons x l ih =>
    rw [List.map_cons, List.filter_cons, List.flatMap_cons]
    cases e : x.2.all with
    | nil => simpa [e] using ih
    | cons y ys => simp only [List.isEmpty_cons, Bool.not_false, if_true, List.flatMap_cons, ih]

theorem left_mem {q : List Int} {b : Int} {P : List Prw} {s : WS} (h : WOk q b P s) : ∀ x ∈ leftW s, PtOk q.length x.1 ∧ x.2 ≠ [] ∧ (∀ y ∈ x.2, y ∈ x.1.all) := by
  intro x hx
  unfold leftW at hx
  rcases List.mem_append.1 hx with h1 | h1
  · exact h.left x h1
  · obtain ⟨h2, h3⟩ := List.mem_filter.1 h1
    obtain ⟨y, hy, rfl⟩ := List.mem_map.1 h2
    refine ⟨(h.near y hy).2, fun e => ?_, fun z hz => hz⟩
    simp only at e
    rw [e] at h3
    cases h3

theorem sub_sum {α β : Type} {f : α → List β} {x : α} : ∀ {l : List α}, x ∈ l → List.Sublist (f x) (l.flatMap f) := by
  intro l
  induction l with
  | nil => intro h; cases h
  | cons y l ih =>
    intro h
    rw [List.flatMap_cons]
    rcases List.mem_cons.1 h with rfl | h
    · exact List.sublist_append_left _ _
    · exact (ih h).trans (List.sublist_append_right _ _)

theorem walk_sound {q : List Int} {k b : Int} {ps : List Pt} {L : List Rw} {rs : List Rgn} (hb : 0 ≤ b) (hk : 1 ≤ k) (hps : ∀ p ∈ ps, PtOk q.length p) (hq : Qok L q) (hL : (L.map Rw.pr).Perm (Pt.allL ps)) (hr : rs.map Rgn.core = (leftW (walkE q k b ps)).map coreW) :
    Sound L q k (topW q k (walkE q k b ps)) (sortI ((walkE q k b ps).seen.map (·.1))) rs ∧ ((sortI ((walkE q k b ps).seen.map (·.1))).length : Int) ≤ b ∧
      (((sortI ((walkE q k b ps).seen.map (·.1))).length : Int) = b ∨ (sortI ((walkE q k b ps).seen.map (·.1))).length = L.length ∨ CertA q k (topW q k (walkE q k b ps)) rs) := by
  obtain ⟨hw, hend⟩ := walkE_ok (k := k) hb hps
  generalize walkE q k b ps = s at *
  have hpl := hw.perm
  rw [← left_flat] at hpl
  have hall := hpl.trans hL.symm
  have hidL : (L.map Rw.pr).map (·.1) = L.map (·.id) := by rw [List.map_map]; rfl
  have hids : (s.seen.map (·.1) ++ ((leftW s).flatMap (·.2)).map (·.1)).Perm (L.map (·.id)) := by
    rw [← hidL, ← List.map_append]
    exact hall.map _
  have hnd := hids.nodup_iff.2 hq.rows.nodup
  have hns := (List.nodup_append.1 hnd).1
  have hnl := (List.nodup_append.1 hnd).2.1
  have hcore : ∀ r ∈ rs, ∃ x ∈ leftW s, r.core = coreW x := fun r hrm => by
    have : r.core ∈ (leftW s).map coreW := by rw [← hr]; exact List.mem_map_of_mem hrm
    obtain ⟨x, hx, e⟩ := List.mem_map.1 this
    exact ⟨x, hx, e.symm⟩
  have hmemL : ∀ x ∈ leftW s, ∀ y ∈ x.2, y ∈ L.map Rw.pr := fun x hx y hy => hall.mem_iff.1 (List.mem_append_right _ (List.mem_flatMap.2 ⟨x, hx, hy⟩))
  have hregs : ∀ r ∈ rs, ∃ x ∈ leftW s, r.core = coreW x ∧ RegOk r q.length := fun r hrm => by
    obtain ⟨x, hx, e⟩ := hcore r hrm
    obtain ⟨h1, h2, h3⟩ := left_mem hw x hx
    refine ⟨x, hx, e, reg_core (p := x.1) (rows := x.2) e h1.reg ?_ fun y hy => ?_⟩
    · exact hnl.sublist ((sub_sum hx).map _)
    · obtain ⟨w, hw', ew⟩ := List.mem_map.1 (hmemL x hx y hy)
      rw [← ew]
      exact hq.rows.id w hw'
  have hflat : (rs.flatMap (·.ids)).Perm (((leftW s).flatMap (·.2)).map (·.1)) := by
    have e1 : rs.flatMap (·.ids) = (rs.map Rgn.core).flatMap fun z => z.2.2.2.2 := by rw [List.flatMap_map]; rfl
    rw [e1, hr, List.flatMap_map]
    generalize leftW s = l
    induction l with
    | nil => exact .refl _
    | cons x l ih =>
      rw [List.flatMap_cons, List.flatMap_cons, List.map_append]
      exact (sortI_perm _).append ih
  have hlen : (sortI (s.seen.map (·.1))).length = s.seen.length := by rw [sortI_len, List.length_map]
  obtain ⟨ms, hm1, hm2⟩ := pick_rows (L := L) (S := s.seen) fun x hx => hall.mem_iff.1 (List.mem_append_left _ hx)
  have htop : topW q k s = topk k.toNat (ms.map (hitOf q)) := by
    unfold topW
    rw [← hm1, List.map_map]
    rfl
  refine ⟨⟨sortI_rise hns, fun r hrm => ?_, ?_, fun m hm hms => ?_⟩, by rw [hlen]; exact hw.few, ?_⟩
  · obtain ⟨x, hx, e, hreg⟩ := hregs r hrm
    obtain ⟨h1, h2, h3⟩ := left_mem hw x hx
    obtain ⟨_, _, _, _, e5⟩ := core_rgn (p := x.1) (rows := x.2) e
    refine ⟨hreg, fun hn => ?_, fun y hy => ?_⟩
    · rw [e5] at hn
      have := congrArg List.length hn
      rw [sortI_len, List.length_map, List.length_nil] at this
      exact h2 (List.eq_nil_of_length_eq_zero this)
    · rw [e5] at hy
      obtain ⟨z, hz, rfl⟩ := List.mem_map.1 ((sortI_perm _).mem_iff.1 hy)
      obtain ⟨w, hw', ew⟩ := List.mem_map.1 (hmemL x hx z hz)
      refine ⟨w, hw', by rw [← ew]; rfl, inside_core (p := x.1) (rows := x.2) e ?_⟩
      have := h1.ins z (h3 z hz)
      rw [← ew] at this
      exact this
  · exact ((sortI_perm _).append hflat).trans hids
  · rw [htop]
    have hp : m.Perm ms := by
      refine rows_perm hq.rows.nodup hm hm2 ?_
      rw [hms]
      refine (sortI_perm _).trans (List.Perm.of_eq ?_)
      rw [← hm1, List.map_map]
      rfl
    exact topk_eq (hp.symm.map _)
  · rw [hlen]
    have hfew := hw.few
    by_cases hcut : s.rest = []
    · by_cases hb2 : b ≤ (s.seen.length : Int)
      · left; omega
      by_cases hh : s.heap = []
      · right; left
        have h1 := hids.length_eq
        rw [left_flat, hcut, hh] at h1
        simpa using h1
      · right; right
        have hfull : fullW q k s (s.heap.getD 0 default).1 := by
          by_cases hf : fullW q k s (s.heap.getD 0 default).1
          · exact hf
          · exact absurd ⟨hh, by omega, hf⟩ hend
        obtain ⟨f1, f2⟩ := hfull
        right
        refine ⟨?_, fun r hrm => ?_⟩
        · unfold topW
          rw [topk_len, List.length_map]
          omega
        · obtain ⟨x, hx, e, _⟩ := hregs r hrm
          rw [near_core (p := x.1) (rows := x.2) e]
          unfold leftW at hx
          rw [hcut, List.nil_append] at hx
          obtain ⟨y, hy, rfl⟩ := List.mem_map.1 (List.mem_filter.1 hx).1
          obtain ⟨i, hi, rfl⟩ := List.getElem_of_mem hy
          have hroot := hw.hp.root bltOk i hi
          rw [List.getD_eq_getElem?_getD, List.getElem?_eq_getElem hi] at hroot
          have hge : (s.heap.getD 0 default).1 ≤ s.heap[i].1 := by
            have : ¬ s.heap[i].1 < (s.heap.getD 0 default).1 := of_decide_eq_false hroot
            omega
          have := (hw.near _ hy).1
          rw [show (k - 1).toNat = k.toNat - 1 by omega]
          show _ < nearR (s.heap[i].2.rgn []) q
          omega
    · left
      exact hw.cut hcut

end Go.Proofs.YtljbcihbgeiacaaGreat

/- VcSort2 -/
namespace Go.Proofs.YtljbcihbgeiacaaGreat
open Go.Shelf Go.RowKit Go.Sort

theorem flatK_list {α : Type} [Inhabited α] {enc : α → List Value} {k : Nat} (hk0 : 0 < k) (hk : ∀ x, (enc x).length = k) (d : Array α) : (flatK enc k d).toList = d.toList.flatMap enc := by
  apply List.ext_getElem?
  intro i
  rcases Nat.lt_or_ge i (d.size * k) with hi | hi
  · have e : i = i / k * k + i % k := by rw [Nat.mul_comm]; exact (Nat.div_add_mod i k).symm
    have hd : i / k < d.size := Nat.div_lt_of_lt_mul (by rw [Nat.mul_comm]; exact hi)
    have hr : i % k < k := Nat.mod_lt _ hk0
    have hf := flat_get hk d.toList (i / k) (i % k) hr
    rw [← e] at hf
    rw [hf]
    have : (flatK enc k d).toList[i]? = some ((flatK enc k d)[i]!) := by
      rw [Array.getElem?_toList, getElem!_pos _ i (by simpa using hi), Array.getElem?_eq_getElem (by simpa using hi)]
    rw [this, get_flatK _ _ _ _ hi]
    simp [hd]
    have h2 : i % k < (enc d[i / k]).length := by rw [hk]; exact hr
    rw [List.getElem?_eq_getElem h2]
    rfl
  · rw [List.getElem?_eq_none (by simpa using hi), List.getElem?_eq_none (by rw [flat_len hk]; simpa using hi)]

theorem sorted_list {α : Type} [Inhabited α] {cf : α → α → Int} {d : Array α} (hs : SortedIn (ltOf cf) 0 d.size d) : d.toList.Pairwise fun a b => ¬ cf b a < 0 := by
  refine List.pairwise_iff_getElem.2 fun i j hi hj hij => ?_
  have := hs i j (Nat.zero_le _) hij (by simpa using hj)
  simp only [Array.length_toList] at hi hj
  rw [getElem!_pos d j hj, getElem!_pos d i hi] at this
  unfold ltOf at this
  simpa using this

/-- slices.SortFunc, of rows, by whatever comparison that is pure. -/
theorem spec.slices_SortFunc__api_Row_ {α : Type} [Inhabited α] (val : α → Rw) {g : FuncId} {cf : α → α → Int} (hO : SWO (ltOf cf)) (eg : ∀ args w, (callFunc g args).run Tryz.prog w = .ok (.enter g args) w)
    (hcf : ∀ a b (u : H), ClT Tryz.prog g #[.agg (encR (val a)).toArray, .agg (encR (val b)).toArray] [.one (.int .i64)] u fun z' u' => z' = cf a b ∧ u' = u)
    {u0 u : H} {s : Sl} {l : List α} (ho : OwnF u0 u 43 2 s ((l.map val).flatMap encR)) (hsm : l.length < 4611686018427387904) {K : H → Prop}
    (hK : ∀ (u' : H) (l' : List α), l'.Perm l → (l'.Pairwise fun a b => ¬ cf b a < 0) → OwnF u0 u' 43 2 s ((l'.map val).flatMap encR) → Else u u' s → K u') : C.slices_SortFunc__api_Row_ s (.func (.func g) #[] #[]) u K := by
  intro w hw
  have hsn : s.n = l.length := by have := flat_n encR_len (by decide) ho.own.seg; simpa using this
  rcases ho.own.is with h0 | ⟨b, cur, ha, hg, hle, hc, hs, ht⟩
  · subst h0
    have hl : l = [] := by
      have : l.length = 0 := hsn.symm
      exact List.eq_nil_of_length_eq_zero this
    subst hl
    refine (AnyF.slices_SortFunc_none Tryz.sortRows none 0 _ w).mono ?_
    rintro e w' ⟨rfl, rfl⟩
    exact ⟨_, u, rfl, ⟨[], .nil, rfl, hK u [] (List.Perm.refl _) List.Pairwise.nil ho (Else.refl _ _)⟩, Step.refl hw⟩
  have hflat : ∀ m : List α, (m.map val).flatMap encR = m.flatMap fun x => encR (val x) := fun m => by rw [List.flatMap_map]
  have hH : HoldsK (fun x => encR (val x)) 2 w b 0 l.toArray := by
    intro j hj
    simp only [size_flatK, List.size_toArray] at hj
    have hl : ((l.map val).flatMap encR)[j]? = some ((flatK (fun x => encR (val x)) 2 l.toArray)[j]!) := by
      have := flatK_list (k := 2) (enc := fun x => encR (val x)) (by decide) (fun x => encR_len _) l.toArray
      simp only [] at this
      rw [hflat, ← this, Array.getElem?_toList, getElem!_pos _ j (by simpa using hj), Array.getElem?_eq_getElem (by simpa using hj)]
    constructor
    · rcases ho.own.seg.at' with h1 | ⟨p, hp, hcell⟩
      · rw [h1] at hl; simp at hl
      · rw [ha] at hp; cases hp
        have := hw.cell (hcell j _ hl)
        rw [Addr.add_lit, Nat.zero_add] at this
        simpa using this
    · simp [World.frozen?, hw _ _ hg]
  have hcall := AnyQ.slices_SortFunc Tryz.sortRows 2 (fun w => by kernel_rfl) (fun w => by kernel_rfl) (fun x => encR (val x)) (fun x => encR_len _) (fun x => encR_one _) cf hO g #[] b 0 s.c l.toArray w eg
    (fun m os dk _ x y => by
      have := grown_of_pure (hcf x y) (sortWorldK (fun x => encR (val x)) 2 w b 0 m dk os)
      simpa using this) hH (hw.lt hg) (by simpa using hsm)
  simp only [List.size_toArray] at hcall
  change Calls Tryz.prog 105 _ _ _ at hcall
  rw [ha, hsn]
  refine hcall.mono ?_
  rintro e w' ⟨rfl, d', n, os, ⟨hp1, _, hp3⟩, hsrt, rfl⟩
  simp only [List.size_toArray] at hp1
  have hperm : d'.toList.Perm l := by
    have e1 : d'.extract 0 l.length = d' := by rw [← hp1]; simp
    have e2 : l.toArray.extract 0 l.length = l.toArray := by simp
    rw [e1, e2] at hp3
    simpa using hp3
  obtain ⟨ho', he⟩ := ho.resort ha hg (F := flatK (fun x => encR (val x)) 2 d') (by rw [size_flatK, hp1, hsn])
  rw [flatK_list (by decide) (fun x => encR_len _), ← hflat] at ho'
  exact ⟨_, _, rfl, ⟨[], .nil, rfl, hK _ d'.toList hperm (sorted_list (by rw [hp1]; exact hsrt)) ho' he⟩, step_sorted hw hg n _ os⟩

end Go.Proofs.YtljbcihbgeiacaaGreat

/- VcOwn -/
namespace Go.Proofs.YtljbcihbgeiacaaGreat
open Go.Sort Go.Shelf

/-- Rows of one's own: their block, and each vector's. -/
structure RowsO (u0 u : H) (s : Sl) (ls : List Rw) : Prop where
  own : OwnF u0 u 43 2 s (ls.flatMap encR)
  inner : ∀ r ∈ ls, OwnF u0 u 3 1 r.s (r.v.flatMap encI)
  far : ∀ r ∈ ls, Far s r.s
  apart : ls.Pairwise fun a b => Far a.s b.s

theorem RowsO.rws {u0 u : H} {s : Sl} {ls : List Rw} (h : RowsO u0 u s ls) : Rws u s ls := ⟨h.own.own.seg, fun r hr => (h.inner r hr).ints⟩

theorem RowsO.mono {u0 u u' : H} {s : Sl} {ls : List Rw} (h : RowsO u0 u s ls) (k : u.le u') : RowsO u0 u' s ls :=
  ⟨h.own.mono k, fun r hr => (h.inner r hr).mono k, h.far, h.apart⟩

def Rws1 (r : Rw) : Prop := 1 ≤ r.id ∧ r.id ≤ 1000000000

theorem rowSWO : SWO (ltOf fun a b : { r // Rws1 r } => a.1.id - b.1.id) where
  irrefl x := by unfold ltOf; simp
  trans x y z h1 h2 := by unfold ltOf at *; simp only [decide_eq_true_eq] at *; omega
  ntrans x y z h1 h2 := by unfold ltOf at *; simp only [decide_eq_false_iff_not] at *; omega

instance : Inhabited { r // Rws1 r } := ⟨⟨⟨1, ⟨none, 0, 0⟩, []⟩, by unfold Rws1; decide⟩⟩

theorem spec.flat_Own {s : Sl} {l : List Rw} {u : H} {K : Sl → H → Prop} (hs : Rws u s l) (hid : ∀ r ∈ l, 1 ≤ r.id ∧ r.id ≤ 1000000000) (hn : l.length ≤ 1000000) (hv : ∀ r ∈ l, r.v.length ≤ 1000000)
    (hK : ∀ s' ls u', RowsO u u' s' ls → (ls.map Rw.pr).Perm (l.map Rw.pr) → (ls.Pairwise fun a b => a.id ≤ b.id) → K s' u') : C.flat_Own s u K := by
  have hsn := hs.len
  apply vc.flat_Own
  refine sem_make tRows (by omega) (Int.le_refl _) (by omega) (by omega) fun g hg => ?_
  have hmade : ∀ (n : Nat), (madeCells [Value.int .i64 0, .slice none 0 0].toArray (n * 2)).toList = (List.replicate n (⟨0, ⟨none, 0, 0⟩, []⟩ : Rw)).flatMap encR := fun n => made_flat (enc := encR) encR_len (by decide) ⟨0, ⟨none, 0, 0⟩, []⟩ n
  obtain ⟨cs, hcs⟩ : ∃ cs, madeCells [Value.int .i64 0, .slice none 0 0].toArray ((s.n : Int).toNat * 2) = cs := ⟨_, rfl⟩
  have hcl : cs.toList = (List.replicate l.length (⟨0, ⟨none, 0, 0⟩, []⟩ : Rw)).flatMap encR := by rw [← hcs, ← hmade, show (s.n : Int).toNat = l.length by omega]
  rw [hcs]
  have hcz : cs.size = l.length * 2 := by rw [← Array.length_toList, hcl, flat_len encR_len]; simp
  have ho0 : OwnF u (u.ins g (.cells cs 43 (0, 0))) 43 2 ⟨some ⟨g, 0, none⟩, l.length, l.length⟩ ((List.replicate l.length (⟨0, ⟨none, 0, 0⟩, []⟩ : Rw)).flatMap encR) := by
    have := OwnF.make (k := 2) (H.le.refl u) hg (cells := cs) (e := 43) (n := l.length) (by omega) hcz
    rw [hcl] at this
    exact this
  rw [show (s.n : Int).toNat = l.length by omega]
  have hblk : (⟨some ⟨g, 0, none⟩, l.length, l.length⟩ : Sl).blk = some g := rfl
  refine ⟨fun i w => 0 ≤ i ∧ i ≤ l.length ∧ ∃ D : List Rw, D.map Rw.pr = (l.take i.toNat).map Rw.pr ∧ RowsO u w ⟨some ⟨g, 0, none⟩, l.length, l.length⟩ (D ++ List.replicate (l.length - i.toNat) ⟨0, ⟨none, 0, 0⟩, []⟩),
    fun i _ => l.length - i.toNat, ⟨by omega, by omega, [], by simp, ?_⟩, ?_⟩
  · refine ⟨by simpa using ho0, fun r hr => ?_, fun r hr => ?_, ?_⟩
    · simp at hr
      rw [hr.2]
      exact OwnF.nil (H.le_ins _ hg) _ _
    · simp at hr
      rw [hr.2]
      intro x _ hx; simp [Sl.blk] at hx
    · simp only [List.nil_append]
      rw [List.pairwise_replicate]
      exact .inr fun x hx => by simp [Sl.blk] at hx
  rintro i w ⟨i0, i1, D, hD, hR⟩
  have hDl : D.length = i.toNat := by have := congrArg List.length hD; simp at this; omega
  refine ⟨fun hil => ?_, fun hig => ?_⟩
  · obtain ⟨p, hp, r, hr, c0, c1, c2⟩ := (hs.mono hR.own.le).at i0 hil
    have hrm : r ∈ l := List.mem_of_getElem? hr
    have hrv := c2.len
    have := hv r hrm
    refine ⟨p, hp, ⟨i0, hil⟩, _, c0, _, c1, spec.slices_Clone___int_int_ c2 (by omega) fun s9 u10 ho9 hn9 => ⟨ho9.le, _, rfl, ⟨i0, by show i < ((l.length : Nat) : Int); omega⟩, ?_⟩⟩
    have hR10 := hR.mono ho9.le
    refine OwnF.store (enc := encR) encR_len hR10.own (by decide) (i := i.toNat) (by simp; omega) (y := ⟨r.id, s9, r.v⟩) (encR_one _) rfl fun u12 ho12 he12 _ => ⟨⟨by omega, by omega⟩, ⟨by omega, by omega, D ++ [⟨r.id, s9, r.v⟩], ?_, ?_⟩, by dsimp only; omega⟩
    · rw [show (i + 1).toNat = i.toNat + 1 by omega, List.take_add_one, hr, List.map_append, hD]
      simp [Rw.pr]
    · have hset : (D ++ List.replicate (l.length - i.toNat) (⟨0, ⟨none, 0, 0⟩, []⟩ : Rw)).set i.toNat ⟨r.id, s9, r.v⟩ = D ++ [⟨r.id, s9, r.v⟩] ++ List.replicate (l.length - (i + 1).toNat) ⟨0, ⟨none, 0, 0⟩, []⟩ := by
        rw [show l.length - i.toNat = (l.length - (i + 1).toNat) + 1 by omega, List.replicate_succ, ← hDl, set_mid]
        simp
      rw [hset] at ho12
      -- blocks
      have hold : ∀ x ∈ D, OwnF u w 3 1 x.s (x.v.flatMap encI) := fun x hx => hR.inner x (List.mem_append_left _ hx)
      have hgk : w g ≠ none := own_known hR.own hblk
      have hs9g : s9.blk ≠ some g := fun e => hgk (ho9.fresh g e)
      have hfarD : ∀ x ∈ D, Far x.s s9 := fun x hx c hc hc' => own_known (hold x hx) hc (ho9.fresh c hc')
      have hDg : ∀ x ∈ D, Far ⟨some ⟨g, 0, none⟩, l.length, l.length⟩ x.s := fun x hx => hR.far x (List.mem_append_left _ hx)
      refine ⟨ho12, fun x hx => ?_, fun x hx => ?_, ?_⟩
      · rcases List.mem_append.1 hx with hx | hx
        · rcases List.mem_append.1 hx with hx | hx
          · exact OwnF.else (e := 0) ((hold x hx).mono ho9.le) he12 (fun c hc => hR.own.fresh c hc) fun c hc => hDg x hx c hc
          · simp at hx
            subst hx
            exact OwnF.else (e := 0) (ho9.weaken hR.own.le) he12 (fun c hc => hR.own.fresh c hc) fun c hc => by
              have : c = g := by rw [hblk] at hc; exact (Option.some.inj hc).symm
              rw [this]; exact hs9g
        · rw [(List.mem_replicate.1 hx).2]
          exact OwnF.nil (ho12.le) _ _
      · rcases List.mem_append.1 hx with hx | hx
        · rcases List.mem_append.1 hx with hx | hx
          · exact hDg x hx
          · simp at hx
            subst hx
            intro c hc
            have : c = g := by rw [hblk] at hc; exact (Option.some.inj hc).symm
            rw [this]; exact hs9g
        · rw [(List.mem_replicate.1 hx).2]
          intro c _ hc; simp [Sl.blk] at hc
      · have hap := (List.pairwise_append.1 hR.apart).1
        refine List.pairwise_append.2 ⟨List.pairwise_append.2 ⟨hap, by simp, fun x hx y hy => ?_⟩, ?_, fun x hx y hy => ?_⟩
        · simp at hy; subst hy; exact hfarD x hx
        · rw [List.pairwise_replicate]
          exact .inr fun c hc => by simp [Sl.blk] at hc
        · rw [(List.mem_replicate.1 hy).2]
          intro c _ hc; simp [Sl.blk] at hc
  · have hil : i.toNat = l.length := by
      have : ¬ i < (s.n : Int) := hig
      omega
    rw [hil, Nat.sub_self, List.replicate_zero, List.append_nil] at hR
    rw [hil, List.take_length] at hD
    have hin : ∀ r ∈ D, Rws1 r := fun r hr => by
      have : r.pr ∈ l.map Rw.pr := by rw [← hD]; exact List.mem_map.2 ⟨r, hr, rfl⟩
      obtain ⟨r', hr', e⟩ := List.mem_map.1 this
      have h1 := hid r' hr'
      have : r'.id = r.id := congrArg Prod.fst e
      unfold Rws1; rw [← this]; exact h1
    obtain ⟨E, hE⟩ : ∃ E : List { r // Rws1 r }, E.map (·.1) = D := ⟨D.attachWith _ hin, by simp⟩
    have hown := hR.own
    rw [← hE] at hown
    refine spec.slices_SortFunc__api_Row_ (val := fun r : { r // Rws1 r } => r.1) rowSWO (enters_of Tryz.func106 (by kernel_rfl) rfl) (fun a b v => ?_) hown (by have := congrArg List.length hE; simp at this; omega) fun u2 E' hp hsrt ho2 he2 => hK _ (E'.map (·.1)) _ ?_ ?_ ?_
    · have ha := a.2
      have hb := b.2
      unfold Rws1 at ha hb
      exact vc.flat_Own_1 a.1.id a.1.s b.1.id b.1.s v (fun z' u2 => z' = a.1.id - b.1.id ∧ u2 = v) ⟨⟨by omega, by omega⟩, rfl, rfl⟩
    · have hpm : (E'.map (·.1)).Perm D := by rw [← hE]; exact hp.map _
      have hmem : ∀ x ∈ E'.map (·.1), x ∈ D := fun x hx => hpm.mem_iff.1 hx
      exact ⟨ho2, fun r hr => OwnF.else (e := 0) (hR.inner r (hmem r hr)) he2 (fun c hc => hR.own.fresh c hc) fun c hc => hR.far r (hmem r hr) c hc, fun r hr => hR.far r (hmem r hr), hR.apart.perm hpm.symm fun h => h.symm⟩
    · rw [← hD, ← hE]
      exact ((hp.map (·.1)).map Rw.pr)
    · rw [List.pairwise_map]
      exact hsrt.imp fun h => by omega

/-- The error of a row that is to be put. -/
def mayErr (id : Int) (v : List Int) (d : Int) (there : Bool) (many : Int) : Int :=
  if id < 1 ∨ 1000000000 < id then 50 else if vcheck v d ≠ 0 then vcheck v d else if there = false ∧ 512 ≤ many then 2 else 0

theorem spec.flat_May {id : Int} {s : Sl} {v : List Int} {d : Int} {there : Bool} {many : Int} {u : H} {K : Int → H → Prop} (hs : Ints u s v) (h : K (mayErr id v d there many) u) : C.flat_May id s d there many u K := by
  apply vc.flat_May
  refine spec.vec_Check hs ?_
  intro K2 hK2
  have go : ∀ bb : Bool, (bb = true ↔ (id < 1 ∨ 1000000000 < id)) → K2 bb u := fun bb hb => hK2 bb u ⟨fun e => ?_, fun e => ⟨fun hne => ?_, fun he => ⟨fun ht => ⟨fun hm => ?_, fun hm => ?_⟩, fun ht => ?_⟩⟩⟩
  · exact ⟨fun h1 => go true ⟨fun _ => .inl h1, fun _ => rfl⟩, fun h1 => go _ ⟨fun e => .inr (by simpa using e), fun e => by simp; omega⟩⟩
  · unfold mayErr at h; rw [if_pos (hb.1 e)] at h; exact h
  all_goals
    have hnb : ¬ (id < 1 ∨ 1000000000 < id) := fun e2 => by rw [hb.2 e2] at e; cases e
    unfold mayErr at h
    rw [if_neg hnb] at h
  · rw [if_pos hne] at h; exact h
  · rw [if_neg (by simpa using he), if_pos ⟨by simpa using ht, hm⟩] at h; exact h
  · rw [if_neg (by simpa using he), if_neg (fun h2 => hm h2.2)] at h; exact h
  · rw [if_neg (by simpa using he), if_neg (fun h2 => by rw [ht] at h2; cases h2.1)] at h; exact h

/-- The error of a question. -/
def askErr (q : List Int) (d k b : Int) : Int := if vcheck q d ≠ 0 then vcheck q d else if k < 1 ∨ 64 < k ∨ b < 0 ∨ 1000000 < b then 1 else 0

theorem spec.flat_Asked {t : Sl} {q : List Int} {d k b : Int} {u : H} {K : Int → H → Prop} (ht : Ints u t q) (h : K (askErr q d k b) u) : C.flat_Asked t d k b u K := by
  unfold askErr at h
  apply vc.flat_Asked
  refine spec.vec_Check ht ⟨fun hne => by rw [if_pos hne] at h; exact h, fun he => ?_⟩
  rw [if_neg (by simpa using he)] at h
  by_cases hbad : k < 1 ∨ 64 < k ∨ b < 0 ∨ 1000000 < b
  · rw [if_pos hbad] at h
    exact ⟨fun _ => h, fun k1 => ⟨fun _ => h, fun k2 => ⟨fun _ => h, fun b1 => ⟨fun _ => h, fun b2 => by omega⟩⟩⟩⟩
  · rw [if_neg hbad] at h
    exact ⟨fun k1 => by omega, fun _ => ⟨fun k2 => by omega, fun _ => ⟨fun b1 => by omega, fun _ => ⟨fun b2 => by omega, fun _ => h⟩⟩⟩⟩

theorem spec.theodolitekeep_Rows {s t : Sl} {a c : List Rw} {u : H} {K : Bool → H → Prop} (hs : Rws u s a) (ht : Rws u t c) (h : K (decide (a.map Rw.pr = c.map Rw.pr)) u) : C.theodolitekeep_Rows s t u K := by
  have key : ∀ z, decide (a.map Rw.pr = c.map Rw.pr) = z → K z u := fun z e => e ▸ h
  have hn := hs.len
  have hm := ht.len
  have hx := hs.max
  apply vc.theodolitekeep_Rows
  refine ⟨fun hne => key false ?_, fun heq => ?_⟩
  · refine decide_eq_false fun e => hne ?_
    have := congrArg List.length e
    simp at this
    omega
  refine ⟨fun _ i w => w = u ∧ 0 ≤ i ∧ i ≤ a.length ∧ (a.take i.toNat).map Rw.pr = (c.take i.toNat).map Rw.pr, fun _ i _ => a.length - i.toNat, ⟨rfl, by omega, by omega, by simp⟩, ?_⟩
  rintro bb i w ⟨rfl, i0, i1, hsame⟩
  refine ⟨fun hil => ?_, fun hig => ?_⟩
  · intro K5 hK5
    obtain ⟨p, hp, r, hr, c0, c1, c2⟩ := hs.at i0 hil
    obtain ⟨q, hq, r', hr', d0, d1, d2⟩ := ht.at (x := i) i0 (by omega)
    have bad : r.pr ≠ r'.pr → K false w := fun hne => key false (decide_eq_false fun e => hne (by
      have := congrArg (fun z => z[i.toNat]?) e
      simp only [List.getElem?_map, hr, hr', Option.map_some, Option.some.injEq] at this
      exact this))
    refine ⟨p, hp, ⟨i0, hil⟩, q, hq, ⟨i0, by omega⟩, _, c0, _, d0, fun hne => bad fun e => hne (congrArg Prod.fst e), fun hid => ⟨p, hp, ⟨i0, hil⟩, q, hq, ⟨i0, by omega⟩, _, c1, _, d1, spec.theodolitekeep_Ints c2 d2 ⟨fun hne => bad fun e => hne ?_, fun hv => hK5 _ _ ⟨⟨by omega, by omega⟩, ⟨rfl, by omega, by omega, ?_⟩, by dsimp only; omega⟩⟩⟩⟩
    · rw [decide_eq_true_eq]; exact congrArg Prod.snd e
    · rw [show (i + 1).toNat = i.toNat + 1 by omega, List.take_add_one, List.take_add_one, hr, hr', List.map_append, List.map_append, hsame]
      have : r.pr = r'.pr := by
        unfold Rw.pr
        rw [hid, of_decide_eq_true hv]
      simp [this]
  · have hil : i.toNat = a.length := by
      have : ¬ i < (s.n : Int) := hig
      omega
    rw [List.take_of_length_le (by omega), List.take_of_length_le (by omega)] at hsame
    exact key true (decide_eq_true hsame)

theorem askErr_ok {q : List Int} {d k b : Int} : askErr q d k b = 0 ↔ vcheck q d = 0 ∧ 1 ≤ k ∧ k ≤ 64 ∧ 0 ≤ b ∧ b ≤ 1000000 := by
  unfold askErr
  by_cases h1 : vcheck q d = 0
  · rw [if_neg (by simpa using h1)]
    by_cases h2 : k < 1 ∨ 64 < k ∨ b < 0 ∨ 1000000 < b
    · rw [if_pos h2]; constructor
      · intro h; cases h
      · rintro ⟨_, h3⟩; omega
    · rw [if_neg h2]; exact ⟨fun _ => ⟨h1, by omega⟩, fun _ => rfl⟩
  · rw [if_pos h1]
    exact ⟨fun h => absurd h h1, fun h => absurd h.1 h1⟩

end Go.Proofs.YtljbcihbgeiacaaGreat

/- VcIv1 -/
namespace Go.Proofs.YtljbcihbgeiacaaGreat.Iv

/-- A list as a part: the ball round its centre. -/
def partI (c : List Int) (l : List Rw) : Pt := .mk 3 c [] (radTo c l l.length) (l.map Rw.pr) []

def partsI : List (Sl × List Int) → List (Sl × List Rw) → List Pt
  | c :: cs, l :: ls => partI c.2 l.2 :: partsI cs ls
  | _, _ => []

theorem partsI_all : ∀ (cs : List (Sl × List Int)) (ls : List (Sl × List Rw)), cs.length = ls.length → Pt.allL (partsI cs ls) = (ls.flatMap (·.2)).map Rw.pr := by
  intro cs
  induction cs with
  | nil =>
    intro ls h
    cases ls with
    | nil => rfl
    | cons l ls => simp at h
  | cons c cs ih =>
    intro ls h
    cases ls with
    | nil => simp at h
    | cons l ls =>
      have := ih ls (by simpa using h)
      simp only [partsI, Pt.allL, this, List.flatMap_cons, List.map_append]
      congr 1
      unfold partI
      rw [Pt.all_eq]
      show l.2.map Rw.pr ++ [] = _
      rw [List.append_nil]

theorem partI_ok {c : List Int} {l : List Rw} {d : Int} (hc : (c.length : Int) = d ∧ vok c) (hl : Rok l d) : PtOk d (partI c l) := by
  have hrok : Rok l c.length := by rw [hc.1]; exact hl
  refine .mk ⟨hl.dim, List.Pairwise.nil, fun x hx => (by cases hx), .inr (.inr ⟨rfl, rfl, hc.2, hc.1, radTo_ok hc.2 hrok _ (Nat.le_refl _)⟩)⟩ (fun x hx => ?_) (fun k hk => (by cases hk))
  have hx' : x ∈ l.map Rw.pr := by
    rw [Pt.all_eq] at hx
    have h2 : x ∈ l.map Rw.pr ++ [] := hx
    rwa [List.append_nil] at h2
  obtain ⟨r, hr, rfl⟩ := List.mem_map.1 hx'
  obtain ⟨i, hi, rfl⟩ := List.getElem_of_mem hr
  exact ⟨fun e => (by cases e), fun _ => (radTo_ge c l l.length).2 i _ hi (List.getElem?_eq_getElem hi)⟩

theorem partsI_ok {d : Int} : ∀ (cs : List (Sl × List Int)) (ls : List (Sl × List Rw)), (∀ c ∈ cs, (c.2.length : Int) = d ∧ vok c.2) → (∀ l ∈ ls, Rok l.2 d) → ∀ p ∈ partsI cs ls, PtOk d p := by
  intro cs
  induction cs with
  | nil => intro ls _ _ p hp; cases ls <;> cases hp
  | cons c cs ih =>
    intro ls h1 h2 p hp
    cases ls with
    | nil => cases hp
    | cons l ls =>
      rcases List.mem_cons.1 hp with rfl | hp
      · exact partI_ok (h1 c (List.mem_cons_self ..)) (h2 l (List.mem_cons_self ..))
      · exact ih ls (fun c hc => h1 c (List.mem_cons_of_mem _ hc)) (fun l hl => h2 l (List.mem_cons_of_mem _ hl)) p hp

noncomputable def walkI (X : Tr) (q : List Int) (k bud : Int) : WS := walkE q k bud (partsI X.cs X.ls)
noncomputable def ixH (X : Tr) (q : List Int) (k bud : Int) : List Hit := topW q k (walkI X q k bud)
noncomputable def ixS (X : Tr) (q : List Int) (k bud : Int) : List Int := sortI ((walkI X q k bud).seen.map (·.1))
noncomputable def ixR (X : Tr) (q : List Int) (k bud : Int) : List (Int × Int × List Int × List Int × List Int) := (leftW (walkI X q k bud)).map coreW

theorem TOk.rok {X : Tr} (h : TOk X) : Rok (X.ls.flatMap (·.2)) X.dim :=
  ⟨h.dm, by rw [← h.wlen]; exact h.small, fun r hr => by obtain ⟨l, hl, hr⟩ := List.mem_flatMap.1 hr; exact h.ids l hl r hr, h.nodup, fun r hr => by obtain ⟨l, hl, hr⟩ := List.mem_flatMap.1 hr; exact h.vec l hl r hr⟩

/-- A search of the lists is sound. -/
theorem tree_sound {X : Tr} (h : TOk X) {q : List Int} {k bud : Int} (hk : 1 ≤ k) (hb : 0 ≤ bud) (hd : (q.length : Int) = X.dim) {L : List Rw} (hL : (L.map Rw.pr).Perm (ixRows X)) (hq : Qok L q) {rest : List Rgn} (hr : rest.map Rgn.core = ixR X q k bud) :
    Sound L q k (ixH X q k bud) (ixS X q k bud) rest ∧ ((ixS X q k bud).length : Int) ≤ bud ∧ (((ixS X q k bud).length : Int) = bud ∨ (ixS X q k bud).length = L.length ∨ CertA q k (ixH X q k bud) rest) := by
  have hrok := h.rok
  refine walk_sound hb hk (partsI_ok X.cs X.ls (fun c hc => by rw [hd]; exact h.cvok c hc) fun l hl => ?_) hq ?_ hr
  · rw [hd]
    exact hrok.sub (sub_sum (f := fun l : Sl × List Rw => l.2) hl)
  · rw [partsI_all _ _ h.many.1]
    exact hL

end Go.Proofs.YtljbcihbgeiacaaGreat.Iv

/- VcRowF -/
namespace Go.Proofs.YtljbcihbgeiacaaGreat

/-- What a predicate's function value is asked of rows: it looks at no more than what was known at first. -/
def RowPred (ub : H) (fv : Value) (p : Rw → Bool) : Prop := ∀ (r : Rw) (v : H) (K : Bool → H → Prop), ub.le v → K (p r) v → ClY Tryz.prog fv #[.agg #[.int .i64 r.id, .slice r.s.a r.s.n r.s.c]] [.one .bool] v K

theorem spec.slices_IndexFunc__api_Row_ {ub u : H} {s : Sl} {l : List Rw} {fv : Value} {p : Rw → Bool} {K : Int → H → Prop} (hs : Seg u s 2 (l.flatMap encR)) (hp : RowPred ub fv p) (hub : ub.le u)
    (hK : ∀ (i : Nat) r, l[i]? = some r → (∀ (k : Nat) r', k < i → l[k]? = some r' → p r' = false) → p r = true → K i u) (hN : (∀ r ∈ l, p r = false) → K (-1) u) : C.slices_IndexFunc__api_Row_ s fv u K := by
  have hn : s.n = l.length := flat_n encR_len (by decide) hs
  have hm : s.n ≤ 9223372036854775807 := Nat.le_trans (Seg.cap hs) (Seg.max hs)
  apply vc.slices_IndexFunc__api_Row_
  refine ⟨fun _ i v => v = u ∧ 0 ≤ i ∧ i ≤ l.length ∧ ∀ (k : Nat) r', k < i.toNat → l[k]? = some r' → p r' = false, fun _ i _ => l.length - i.toNat, ⟨rfl, by omega, by omega, fun k r' hk => by simp at hk⟩, ?_⟩
  rintro _ i v ⟨rfl, i0, i1, hk⟩
  refine ⟨fun hil => ?_, fun hge => hN fun r hr => ?_⟩
  · have hl : i.toNat < l.length := by omega
    have hx : l[i.toNat]? = some l[i.toNat] := List.getElem?_eq_getElem hl
    obtain ⟨q, hq, hc⟩ := Seg.elem encR_len (by decide) hs hx
    have c0 := hc 0 _ rfl
    rw [Addr.add_zero'] at c0
    refine ⟨q, hq, ⟨i0, hil⟩, _, c0, _, hc 1 _ rfl, hp _ _ _ hub ⟨fun hb => ?_, fun hb => ⟨⟨by omega, by omega⟩, ⟨rfl, by omega, by omega, fun k r' hk' hr' => ?_⟩, by dsimp only; omega⟩⟩⟩
    · have := hK i.toNat _ hx hk hb
      rw [show ((i.toNat : Nat) : Int) = i by omega] at this
      exact this
    · by_cases e : k = i.toNat
      · subst e
        rw [hx] at hr'; cases hr'
        exact hb
      · exact hk k r' (by omega) hr'
  · obtain ⟨k, hk', rfl⟩ := List.getElem_of_mem hr
    exact hk k _ (by omega) (List.getElem?_eq_getElem hk')

end Go.Proofs.YtljbcihbgeiacaaGreat

/- VcIv2 -/
namespace Go.Proofs.YtljbcihbgeiacaaGreat.Iv

theorem tLists : elemT Tryz.prog 95 = some (22, 1, 24, [.slice none 0 0]) := by kernel_rfl
theorem whTy : MapTy Tryz.prog 96 3 3 (.int .i64 0) := ⟨by kernel_rfl, by kernel_rfl, fun _ => by kernel_rfl⟩

theorem encSL_len (c : Sl × List Rw) : (encS c.1).length = 1 := rfl

theorem tree_cells {fp : Nat → Option Tg} {u : H} {b : Nat} {T : Tr} (h : TrAt fp u b T) : u.cell? ⟨b, 0, none⟩ = some (.int .i64 T.dim) ∧ u.cell? ((Addr.mk b 0 none).add 1) = some (.slice T.sc.a T.sc.n T.sc.c) ∧
    u.cell? ((Addr.mk b 0 none).add 2) = some (.slice T.sl.a T.sl.n T.sl.c) ∧ u.cell? ((Addr.mk b 0 none).add 3) = some (.map (some T.m)) :=
  ⟨H.cell?_of h.cell 0, H.cell?_of h.cell 1, H.cell?_of h.cell 2, H.cell?_of h.cell 3⟩

theorem TrAt.ls_len {fp : Nat → Option Tg} {u : H} {b : Nat} {T : Tr} (h : TrAt fp u b T) : T.sl.n = T.ls.length := flat_n encSL_len (by decide) h.larr.seg
theorem TrAt.vcs {fp : Nat → Option Tg} {u : H} {b : Nat} {T : Tr} (h : TrAt fp u b T) : VcsAt u T.sc T.cs := ⟨h.carr, fun c hc => by
  obtain ⟨i, hi, rfl⟩ := List.getElem_of_mem hc
  exact (h.cvec i _ (List.getElem?_eq_getElem hi)).1⟩
theorem TOk.csok {T : Tr} (h : TOk T) : CsOk T.cs T.dim := ⟨h.dm, h.many.2, h.cvok⟩

def getW (w : List (Int × Nat)) (x : Int) : Option Nat := (w.find? fun p => p.1 == x).map (·.2)

theorem getL_where (w : List (Int × Nat)) (x : Int) : getL (whereL w) x = (getW w x).map fun i => .int .i64 i := by
  unfold getL getW whereL
  induction w with
  | nil => rfl
  | cons p w ih =>
    simp only [List.map_cons, List.find?_cons]
    by_cases e : p.1 = x
    · simp [e]
    · have e2 : (p.1 == x) = false := by simpa using e
      simp only [e2]
      exact ih

theorem getW_mem {w : List (Int × Nat)} {x : Int} {i : Nat} (h : getW w x = some i) : (x, i) ∈ w := by
  unfold getW at h
  obtain ⟨p, hp, rfl⟩ := Option.map_eq_some_iff.1 h
  have h1 := List.mem_of_find?_eq_some hp
  have h2 := List.find?_some hp
  have : p.1 = x := by simpa using h2
  rw [← this]
  exact h1

theorem getW_none {w : List (Int × Nat)} {x : Int} : getW w x = none ↔ x ∉ w.map (·.1) := by
  unfold getW
  simp only [Option.map_eq_none_iff, List.find?_eq_none, List.mem_map, not_exists, not_and]
  constructor
  · intro h p hp e
    exact h p hp (by simp [e])
  · intro h p hp e
    exact h p hp (by simpa using e)

theorem seg_nil_full {u : H} {s : Sl} {k : Nat} {xs : List Value} (h : Seg u s k xs) (hf : s.n = s.c) (hk : 0 < k) : s = ⟨none, 0, 0⟩ ∨ s.a ≠ none := by
  rcases h.at' with h1 | ⟨p, hp, _⟩
  · have hl := h.len
    rw [h1] at hl
    simp only [List.length_nil] at hl
    rcases Nat.mul_eq_zero.1 hl.symm with h2 | h2
    · cases s with
      | mk a n c =>
        simp only at hf h2
        subst h2
        subst hf
        cases a with
        | none => exact .inl rfl
        | some p => exact .inr (by simp)
    · omega
  · exact .inr (by rw [hp]; simp)

/-- A row more in a list. -/
theorem ls_push {u : H} {s : Sl} {l : List Rw} {id : Int} {sv : Sl} {v : List Int} {K : Sl → H → Prop} (h : LsAt u s l) (hl : l.length < 1000000)
    (hK : ∀ s' u', Own u' 43 2 s' ((l ++ [(⟨id, sv, v⟩ : Rw)]).flatMap encR) → Else u u' s → (∀ g, s'.blk = some g → s.blk = some g ∨ u g = none) → K s' u') :
    SemT Tryz.prog (Instr.buildSlice 22 1 #[(0, .agg #[.int .i64 id, .slice sv.a sv.n sv.c])]) [.one .slice] u fun s1 u1 => u.le u1 ∧ SemT Tryz.prog (Builtin.append_ #[22, 22] 22 #[.slice s.a s.n s.c, .slice s1.a s1.n s1.c]) [.one .slice] u1 K := by
  have hsn : s.n = l.length := flat_n encR_len (by decide) h.seg
  have ef : l.flatMap encR ++ [.int .i64 id, .slice sv.a sv.n sv.c] = (l ++ [(⟨id, sv, v⟩ : Rw)]).flatMap encR := by simp [encR]
  rcases h.own with ho | hf
  · refine sem_push tRows (build_row1 id sv) (by decide) rfl (by simp [Value.oneCell']) ho.f (by omega) (by omega) fun s' u' ho' _ he hb _ => hK s' u' ?_ he hb
    rw [← ef]
    exact ho'.own
  · refine sem_build (build_row1 id sv) fun g hg => ⟨H.le_ins _ hg, ?_⟩
    have hle := H.le_ins (u := u) (b := g) (.cells [Value.int .i64 id, .slice sv.a sv.n sv.c].toArray 43 (0, 0)) hg
    have hx : Seg (u.ins g (.cells [Value.int .i64 id, .slice sv.a sv.n sv.c].toArray 43 (0, 0))) ⟨some ⟨g, 0, none⟩, 1, 1⟩ 2 [Value.int .i64 id, .slice sv.a sv.n sv.c] := by
      have := (OwnF.make (k := 2) (H.le.refl u) hg (cells := [Value.int .i64 id, .slice sv.a sv.n sv.c].toArray) (e := 43) (n := 1) (by omega) (by simp)).own.seg
      simpa using this
    refine sem_append_new tRows (h.seg.mono hle) hx (by simp only; omega) (seg_nil_full h.seg hf (by decide)) (by simp) (by simp only; omega) (by simp only; omega) fun g2 c cur hg2 ho2 => hK _ _ (by rw [← ef]; exact ho2) (fun b o hb _ => ?_) fun g3 hg3 => ?_
    · have h1 := hle b o hb
      rw [H.ins_other _ _ (fun e => by rw [e, hg2] at h1; cases h1)]
      exact h1
    · have : g3 = g2 := by simpa [Sl.blk] using hg3.symm
      rw [this]
      exact .inr (hle.none hg2)

/-- A list and where its rows are have turned; nothing else. -/
theorem TrAt.relist {fp fp' : Nat → Option Tg} {u u' : H} {b : Nat} {T : Tr} (h : TrAt fp u b T) {i : Nat} {s' : Sl} {l' : List Rw} {w' : List (Int × Nat)} (hl : LsAt u' s' l') (htag : ∀ g, s'.blk = some g → fp' g = some (.list i))
    (hrows : ∀ r ∈ l', Ints u' r.s r.v ∧ ∀ g, r.s.blk = some g → fp' g = some .vec) (hla : Own u' 22 1 T.sl ((T.ls.set i (s', l')).flatMap fun l => encS l.1)) (hm : MapAt u' T.m (whereL w'))
    (hu : ∀ c o, u c = some o → fp c ≠ none → fp c ≠ some .larr → fp c ≠ some (.list i) → fp c ≠ some .map → u' c = some o) (hf : ∀ c, fp c ≠ none → fp c ≠ some (.list i) → fp' c = fp c) : TrAt fp' u' b { T with ls := T.ls.set i (s', l'), w := w' } where
  cell := hu _ _ h.cell (by rw [h.btag]; simp) (by rw [h.btag]; simp) (by rw [h.btag]; simp) (by rw [h.btag]; simp)
  btag := by rw [hf _ (by rw [h.btag]; simp) (by rw [h.btag]; simp)]; exact h.btag
  carr := Seg.else h.carr fun g o hg ho => hu g o ho (by rw [h.cblk g hg]; simp) (by rw [h.cblk g hg]; simp) (by rw [h.cblk g hg]; simp) (by rw [h.cblk g hg]; simp)
  cblk g hg := by rw [hf _ (by rw [h.cblk g hg]; simp) (by rw [h.cblk g hg]; simp)]; exact h.cblk g hg
  cvec j c hc := by
    obtain ⟨h1, h2⟩ := h.cvec j c hc
    exact ⟨Seg.else h1 fun g o hg ho => hu g o ho (by rw [h2 g hg]; simp) (by rw [h2 g hg]; simp) (by rw [h2 g hg]; simp) (by rw [h2 g hg]; simp), fun g hg => by rw [hf _ (by rw [h2 g hg]; simp) (by rw [h2 g hg]; simp)]; exact h2 g hg⟩
  larr := hla
  lblk g hg := by rw [hf _ (by rw [h.lblk g hg]; simp) (by rw [h.lblk g hg]; simp)]; exact h.lblk g hg
  list j l hj := by
    by_cases e : j = i
    · subst e
      have : l = (s', l') := by
        rw [List.getElem?_set] at hj
        split at hj
        · split at hj
          · exact (Option.some.inj hj).symm
          · cases hj
        · rename_i hne; exact absurd rfl hne
      subst this
      exact ⟨hl, htag, hrows⟩
    · rw [List.getElem?_set_ne (Ne.symm e)] at hj
      obtain ⟨h1, h2, h3⟩ := h.list j l hj
      refine ⟨h1.keep fun g o hg ho => hu g o ho (by rw [h2 g hg]; simp) (by rw [h2 g hg]; simp) (by rw [h2 g hg]; simpa using e) (by rw [h2 g hg]; simp), fun g hg => by rw [hf _ (by rw [h2 g hg]; simp) (by rw [h2 g hg]; simpa using e)]; exact h2 g hg, fun r hr => ?_⟩
      obtain ⟨h4, h5⟩ := h3 r hr
      exact ⟨Seg.else h4 fun g o hg ho => hu g o ho (by rw [h5 g hg]; simp) (by rw [h5 g hg]; simp) (by rw [h5 g hg]; simp) (by rw [h5 g hg]; simp), fun g hg => by rw [hf _ (by rw [h5 g hg]; simp) (by rw [h5 g hg]; simp)]; exact h5 g hg⟩
  map := hm
  mtag := by rw [hf _ (by rw [h.mtag]; simp) (by rw [h.mtag]; simp)]; exact h.mtag

theorem set_push_perm {ls : List (Sl × List Rw)} {i : Nat} {l : Sl × List Rw} (h : ls[i]? = some l) (s' : Sl) (r : Rw) : ((ls.set i (s', l.2 ++ [r])).flatMap (·.2)).Perm (r :: ls.flatMap (·.2)) := by
  induction ls generalizing i with
  | nil => simp at h
  | cons x ls ih =>
    cases i with
    | zero =>
      simp only [List.getElem?_cons_zero, Option.some.injEq] at h
      subst h
      rw [List.set_cons_zero, List.flatMap_cons, List.flatMap_cons, List.append_assoc]
      exact List.perm_middle
    | succ i =>
      simp only [List.getElem?_cons_succ] at h
      rw [List.set_cons_succ, List.flatMap_cons, List.flatMap_cons]
      exact ((ih h).append_left _).trans List.perm_middle

end Go.Proofs.YtljbcihbgeiacaaGreat.Iv

/- VcIv3 -/
namespace Go.Proofs.YtljbcihbgeiacaaGreat.Iv

/-- What a row's laying leaves. -/
structure LayRes (u0 u : H) (fp : Nat → Option Tg) (b : Nat) (T : Tr) (id : Int) (v : List Int) (u' : H) (fp' : Nat → Option Tg) (T' : Tr) : Prop where
  is : In u0 u' fp' b T'
  turn : TurnG u fp u' fp'
  ok : TOk T'
  rows : (ixRows T').Perm ((id, v) :: ixRows T)
  dim : T'.dim = T.dim
  cs : T'.cs = T.cs
  wlen : T'.w.length = T.w.length + 1
  w : ∀ x, x ∈ T'.w.map (·.1) ↔ x ∈ T.w.map (·.1) ∨ x = id
  tags : ∀ c, fp c = some .vec → fp' c = some .vec
  vecs : ∀ c o, u c = some o → fp c = some .vec → u' c = some o

theorem spec.lay {u0 u : H} {fp : Nat → Option Tg} {b : Nat} {T : Tr} {id : Int} {s : Sl} {v : List Int} {K : H → Prop} (h : In u0 u fp b T) (hT : TOk T) (hid : id ∉ T.w.map (·.1)) (hi : 1 ≤ id ∧ id ≤ 1000000000) (hv : Ints u s v)
    (hs : ∀ g, s.blk = some g → fp g = some .vec) (hok : (v.length : Int) = T.dim ∧ vok v) (hlen : T.w.length < 512) (hK : ∀ u' fp' T', LayRes u0 u fp b T id v u' fp' T' → K u') : C.ivf_Tree__lay (some ⟨b, 0, none⟩) id s u K := by
  obtain ⟨c0, c1, c2, c3⟩ := tree_cells h.tr
  have hcs := hT.csok
  obtain ⟨k, hk⟩ : ∃ k, (nearTo (T.cs.map (·.2)) v T.cs.length).1 = k := ⟨_, rfl⟩
  have hkl : k < T.cs.length := by rw [← hk]; exact nearTo_lt _ _ _ hT.many.2.1
  have hkl2 : k < T.ls.length := by rw [← hT.many.1]; exact hkl
  have hlsn := h.tr.ls_len
  apply vc.ivf_Tree__lay
  intro K0 h0
  refine ⟨u, H.le.refl u, _, rfl, _, c1, ?_⟩
  have main : K0 (k : Int) u := by
    refine h0 _ _ fun K3 h3 => ?_
    obtain ⟨l, hl⟩ : ∃ l, T.ls[k]? = some l := ⟨_, List.getElem?_eq_getElem hkl2⟩
    obtain ⟨hL, hLtag, hLrows⟩ := h.tr.list k l hl
    obtain ⟨p, hp, hc⟩ := Seg.elem encSL_len (by decide) h.tr.larr.seg hl
    have hcl := hc 0 _ rfl
    rw [Addr.add_zero'] at hcl
    have nl : ∀ {c t}, fp c = some t → t ≠ .list k → l.1.blk ≠ some c := fun hc ht e => ht (by have := hLtag _ e; rw [hc] at this; exact Option.some.inj this)
    have hbne : l.1.blk ≠ some b := nl h.tr.btag (by simp)
    have hpb : ∃ g cur, T.sl.a = some ⟨g, 0, none⟩ ∧ u g = some (.cells cur 22 (0, 0)) ∧ T.sl.blk = some g := by
      rcases h.tr.larr.is with h1 | ⟨g, cur, h1, h2, _⟩
      · rw [h1] at hp; cases hp
      · exact ⟨g, cur, h1, h2, by simp [Sl.blk, h1]⟩
    obtain ⟨g, cur, hga, hgu, hgb⟩ := hpb
    have hgt := h.tr.lblk g hgb
    have hgne : l.1.blk ≠ some g := nl hgt (by simp)
    obtain rfl : p = ⟨g, 0, none⟩ := by rw [hga] at hp; exact (Option.some.inj hp).symm
    -- cells that are read before the row is appended
    have cellS : ∀ {a : Addr} {x : Value}, u.cell? a = some x → l.1.blk ≠ some a.block → (H.sans u l.1).cell? a = some x := fun {a x} hx hne => by
      unfold H.cell? at hx ⊢
      rw [sans_at hne]; exact hx
    refine ⟨H.sans u l.1, sans_le _ _, _, rfl, _, rfl, T.sl, cellS c2 hbne, T.sl, cellS c2 hbne, _, hp, ⟨by omega, by omega⟩, l.1, ?_, ?_⟩
    · rw [Int.toNat_natCast]
      refine cellS hcl ?_
      rw [Addr.add_lit]
      exact hgne
    have hLl : l.2.length < 1000000 := by
      have h1 := (sub_sum (f := fun l : Sl × List Rw => l.2) (List.mem_of_getElem? hl)).length_le
      rw [← hT.wlen] at h1
      omega
    refine SemT.slice_mono (ls_push (v := v) hL hLl (K := fun s18 u19 => (H.sans u l.1).le u19 ∧ ∃ r20 : Addr, T.sl.a = some r20 ∧ ((0 : Int) ≤ (k : Int) ∧ (k : Int) < (T.sl.n : Int)) ∧ H.St u19 (r20.add ((k : Int).toNat * 1)) [.slice s18.a s18.n s18.c] fun u21 => K3 u21) ?_) fun s1 v1 hx => ⟨(sans_le _ _).trans hx.1, hx.2⟩
    intro s' u1 ho he hb
    refine ⟨fun c o hc => he c o (sans_of hc).1 (sans_of hc).2, _, hp, ⟨by omega, by omega⟩, ?_⟩
    have hla1 : Own u1 22 1 T.sl (T.ls.flatMap fun l => encS l.1) := h.tr.larr.le fun c o hc hu => he c o hu fun e => nl (h.tr.lblk c hc) (by simp) e
    rw [Int.toNat_natCast]
    have hs'g : s'.blk ≠ some g := fun e => by
      rcases hb g e with h1 | h1
      · exact hgne h1
      · rw [hgu] at h1; cases h1
    refine OwnF.store (enc := fun l : Sl × List Rw => encS l.1) encSL_len hla1.f (by decide) (i := k) hkl2 (y := (s', l.2 ++ [⟨id, s, v⟩])) (by simp [encS, Value.oneCell']) hga fun u2 ho2 he2 hn2 => h3 _ ?_
    have e12 : ∀ c o, u c = some o → fp c ≠ some .larr → fp c ≠ some (.list k) → u2 c = some o := fun c o hc h1 h2 => by
      refine he2 c o (he c o hc fun e => h2 (hLtag c e)) fun e => h1 (h.tr.lblk c e)
    have cm : u2 b = some (.cells (treeC T).toArray 98 (0, 0)) := e12 b _ h.tr.cell (by rw [h.tr.btag]; simp) (by rw [h.tr.btag]; simp)
    have hmap2 : MapAt u2 T.m (whereL T.w) := h.tr.map.else fun o ho => e12 _ o ho (by rw [h.tr.mtag]; simp) (by rw [h.tr.mtag]; simp)
    refine ⟨u2, H.le.refl _, _, rfl, _, H.cell?_of cm 3, sem_put whTy hmap2 (by rw [getL_where, getW_none.2 hid]; rfl) fun o hm => ?_⟩
    have hmN : ∀ c, fp c ≠ some .map → c ≠ T.m := fun c hc e => hc (by rw [e]; exact h.tr.mtag)
    have e3 : ∀ c x, u c = some x → fp c ≠ some .larr → fp c ≠ some (.list k) → fp c ≠ some .map → (u2.ins T.m o) c = some x := fun c x hc h1 h2 h3 => by
      rw [H.ins_other _ _ (hmN c h3)]; exact e12 c x hc h1 h2
    have s'm : s'.blk ≠ some T.m := fun e => by
      rcases hb _ e with h1 | h1
      · exact nl h.tr.mtag (by simp) h1
      · exact h.known T.m (by rw [h.tr.mtag]; simp) h1
    have hown' : Own (u2.ins T.m o) 43 2 s' ((l.2 ++ [(⟨id, s, v⟩ : Rw)]).flatMap encR) := ho.le fun c x hc hx => by
      rw [H.ins_other _ _ (fun e => s'm (by rw [hc, e]))]
      exact he2 c x hx fun e => by
        have : c = g := by rw [hgb] at e; exact (Option.some.inj e).symm
        exact hs'g (by rw [hc, this])
    -- its blocks
    have hnew : ∀ c, s'.blk = some c → fp c = some (.list k) ∨ u c = none := fun c hc => (hb c hc).imp (hLtag c) fun h => h
    let fp' : Nat → Option Tg := fun c => open Classical in if s'.blk = some c then some (.list k) else if l.1.blk = some c then none else fp c
    have f2 : ∀ c, s'.blk = some c → fp' c = some (.list k) := fun c hc => if_pos hc
    have f1 : ∀ c, fp c ≠ none → fp c ≠ some (.list k) → fp' c = fp c := fun c hc h2 => by
      have h1 : s'.blk ≠ some c := fun e => by
        rcases hnew c e with h1 | h1
        · exact h2 h1
        · exact hc (h.fresh h1)
      show (if s'.blk = some c then _ else _) = _
      rw [if_neg h1, if_neg fun e => h2 (hLtag c e)]
    have f3 : ∀ c, fp' c ≠ none → (s'.blk = some c ∧ (fp c ≠ none ∨ u c = none)) ∨ (s'.blk ≠ some c ∧ l.1.blk ≠ some c ∧ fp c ≠ none) := fun c hc => by
      by_cases e : s'.blk = some c
      · exact .inl ⟨e, (hnew c e).imp (fun h1 => by rw [h1]; simp) fun h1 => h1⟩
      · by_cases e2 : l.1.blk = some c
        · have : fp' c = none := by
            show (if s'.blk = some c then _ else _) = _
            rw [if_neg e, if_pos e2]
          exact absurd this hc
        · have : fp' c = fp c := by
            show (if s'.blk = some c then _ else _) = _
            rw [if_neg e, if_neg e2]
          rw [this] at hc
          exact .inr ⟨e, e2, hc⟩
    have rowsAt : ∀ r ∈ l.2 ++ [(⟨id, s, v⟩ : Rw)], Ints (u2.ins T.m o) r.s r.v ∧ ∀ c, r.s.blk = some c → fp' c = some .vec := by
      intro r hr
      have both : Ints u r.s r.v ∧ ∀ c, r.s.blk = some c → fp c = some .vec := by
        rcases List.mem_append.1 hr with h1 | h1
        · exact hLrows r h1
        · rw [List.mem_singleton.1 h1]; exact ⟨hv, hs⟩
      exact ⟨Seg.else both.1 fun c x hc hx => e3 c x hx (by rw [both.2 c hc]; simp) (by rw [both.2 c hc]; simp) (by rw [both.2 c hc]; simp), fun c hc => by rw [f1 c (by rw [both.2 c hc]; simp) (by rw [both.2 c hc]; simp)]; exact both.2 c hc⟩
    have hm' : MapAt (u2.ins T.m o) T.m (whereL (T.w ++ [(id, k)])) := by
      have : whereL (T.w ++ [(id, k)]) = whereL T.w ++ [(id, .int .i64 (k : Int))] := by simp [whereL]
      rw [this]; exact hm
    have hla2 : Own (u2.ins T.m o) 22 1 T.sl ((T.ls.set k (s', l.2 ++ [(⟨id, s, v⟩ : Rw)])).flatMap fun l => encS l.1) := ho2.own.le fun c x hc hx => by
      rw [H.ins_other _ _ (fun e => by have := h.tr.lblk c hc; rw [e, h.tr.mtag] at this; cases this)]
      exact hx
    have hTr := h.tr.relist (i := k) (w' := T.w ++ [(id, k)]) ⟨hown'.seg, .inl hown'⟩ f2 rowsAt hla2 hm' (fun c x hc _ h2 h3 h4 => e3 c x hc h2 h3 h4) f1
    have u0le : u0.le (u2.ins T.m o) := fun c x hc => by
      have hu := h.le c x hc
      have hf : fp c = none := by
        cases e : fp c with
        | none => rfl
        | some t => have := h.out c (by rw [e]; simp); rw [hc] at this; cases this
      exact e3 c x hu (by rw [hf]; simp) (by rw [hf]; simp) (by rw [hf]; simp)
    have hperm := set_push_perm hl s' (⟨id, s, v⟩ : Rw)
    have hidn : id ∉ (T.ls.flatMap (·.2)).map (·.id) := fun hm => by
      obtain ⟨r, hr, e⟩ := List.mem_map.1 hm
      obtain ⟨y, hy, hry⟩ := List.mem_flatMap.1 hr
      obtain ⟨j, hj, rfl⟩ := List.getElem_of_mem hy
      have := (hT.wh id j).2 ⟨_, List.getElem?_eq_getElem hj, List.mem_map.2 ⟨r, hry, e⟩⟩
      exact hid (List.mem_map.2 ⟨_, this, rfl⟩)
    have each : ∀ {i : Nat} {y : Sl × List Rw}, (T.ls.set k (s', l.2 ++ [(⟨id, s, v⟩ : Rw)]))[i]? = some y → (i = k ∧ y = (s', l.2 ++ [⟨id, s, v⟩])) ∨ (i ≠ k ∧ T.ls[i]? = some y) := fun {i y} hy => by
      by_cases e : i = k
      · subst e
        rw [List.getElem?_set_self (by omega)] at hy
        exact .inl ⟨rfl, (Option.some.inj hy).symm⟩
      · rw [List.getElem?_set_ne (Ne.symm e)] at hy
        exact .inr ⟨e, hy⟩
    have memS : ∀ y ∈ T.ls.set k (s', l.2 ++ [(⟨id, s, v⟩ : Rw)]), ∀ r ∈ y.2, r = ⟨id, s, v⟩ ∨ ∃ z ∈ T.ls, r ∈ z.2 := fun y hy r hr => by
      have : r ∈ (⟨id, s, v⟩ : Rw) :: T.ls.flatMap (·.2) := hperm.mem_iff.1 (List.mem_flatMap.2 ⟨y, hy, hr⟩)
      rcases List.mem_cons.1 this with h1 | h1
      · exact .inl h1
      · obtain ⟨z, hz, hrz⟩ := List.mem_flatMap.1 h1
        exact .inr ⟨z, hz, hrz⟩
    refine hK _ fp' { T with ls := T.ls.set k (s', l.2 ++ [⟨id, s, v⟩]), w := T.w ++ [(id, k)] } ⟨⟨hTr, u0le, fun c hc => ?_, fun c hc => ?_⟩, ⟨fun c x hc hf => e3 c x hc (by rw [hf]; simp) (by rw [hf]; simp) (by rw [hf]; simp), fun c hc => ?_⟩, ?_, ?_, rfl, rfl, by simp, fun x => by simp [List.map_append], fun c hc => by rw [f1 c (by rw [hc]; simp) (by rw [hc]; simp)]; exact hc, fun c o ho hc => e3 c o ho (by rw [hc]; simp) (by rw [hc]; simp) (by rw [hc]; simp)⟩
    · rcases f3 c hc with ⟨_, h1 | h1⟩ | ⟨_, _, h1⟩
      · exact h.out c h1
      · exact h.le.none h1
      · exact h.out c h1
    · rcases f3 c hc with ⟨h1, _⟩ | ⟨_, h2, h1⟩
      · exact own_known hown'.f h1
      · by_cases e : c = T.m
        · rw [e, H.ins_same]; simp
        · by_cases e2 : T.sl.blk = some c
          · exact own_known hla2.f e2
          · obtain ⟨x, hx⟩ := Option.ne_none_iff_exists'.1 (h.known c h1)
            rw [H.ins_other _ _ e, he2 c x (he c x hx h2) e2]
            simp
    · rcases f3 c hc with ⟨_, h1⟩ | ⟨_, _, h1⟩
      · exact h1
      · exact .inl h1
    · have hnr : (nearTo (T.cs.map (·.2)) (⟨id, s, v⟩ : Rw).v T.cs.length).1 = k := hk
      refine ⟨hT.dm, ⟨by simp [hT.many.1], hT.many.2⟩, hT.cvok, fun y hy r hr => ?_, fun y hy r hr => ?_, ?_, fun i j => ?_, ?_, by simp; omega, fun i y hy r hr => ?_⟩
      · rcases memS y hy r hr with rfl | ⟨z, hz, hrz⟩
        · exact hok
        · exact hT.vec z hz r hrz
      · rcases memS y hy r hr with rfl | ⟨z, hz, hrz⟩
        · exact hi
        · exact hT.ids z hz r hrz
      · rw [(hperm.map _).nodup_iff, List.map_cons, List.nodup_cons]
        exact ⟨hidn, hT.nodup⟩
      · simp only [List.mem_append, List.mem_singleton, Prod.mk.injEq]
        constructor
        · rintro (h1 | ⟨rfl, rfl⟩)
          · obtain ⟨y, hy, hm⟩ := (hT.wh i j).1 h1
            by_cases e : j = k
            · subst e
              rw [hl] at hy; cases hy
              exact ⟨_, List.getElem?_set_self (by omega), by rw [List.map_append]; exact List.mem_append_left _ hm⟩
            · exact ⟨y, by rw [List.getElem?_set_ne (Ne.symm e)]; exact hy, hm⟩
          · exact ⟨_, List.getElem?_set_self (by omega), by simp⟩
        · rintro ⟨y, hy, hm⟩
          rcases each hy with ⟨rfl, rfl⟩ | ⟨hne, hy⟩
          · rw [List.map_append] at hm
            rcases List.mem_append.1 hm with h1 | h1
            · exact .inl ((hT.wh i j).2 ⟨l, hl, h1⟩)
            · exact .inr ⟨by simpa using h1, rfl⟩
          · exact .inl ((hT.wh i j).2 ⟨y, hy, hm⟩)
      · have := hperm.length_eq
        rw [List.length_cons, ← hT.wlen] at this
        show (T.w ++ [(id, k)]).length = _
        rw [this]; simp
      · rcases each hy with ⟨rfl, rfl⟩ | ⟨hne, hy⟩
        · rcases List.mem_append.1 hr with h1 | h1
          · exact hT.near i l hl r h1
          · rw [List.mem_singleton.1 h1]; exact hnr
        · exact hT.near i y hy r hr
    · exact hperm.map Rw.pr
  exact ⟨spec.kmeans_Near h.tr.vcs hcs hv hok.2 hok.1 ⟨H.le.refl u, by rw [hk]; exact main⟩, H.le.refl u, spec.kmeans_Near h.tr.vcs hcs hv hok.2 hok.1 (by rw [hk]; exact main)⟩

end Go.Proofs.YtljbcihbgeiacaaGreat.Iv

/- VcIv4 -/
namespace Go.Proofs.YtljbcihbgeiacaaGreat.Iv

theorem sem_append_none {P : Program} {t ty e : TypeId} {size bytes : Nat} {zs : List Value} (hT : elemT P t = some (e, size, bytes, zs)) {s x : Sl} {u : H} {K : Sl → H → Prop} (hs : s.n ≤ s.c) (hx : x.n = 0) (hK : K s u) :
    SemT P (Builtin.append_ #[t, t] ty #[.slice s.a s.n s.c, .slice x.a x.n x.c]) [.one .slice] u K := by
  obtain ⟨ht, i, z, hi, hz, hsize, hby, hzs, _⟩ := elemT_spec hT
  refine .one' (c := .slice) s (fun w hw => ?_) hK
  have hl : ∀ (y : Addr), (loadCells y 0).run P w = .ok #[] w := fun y => by simpa using run_loadCells_list (P := P) w y [] (by simp)
  rw [hx]
  cases hsa : s.a <;> cases hxa : x.a <;> simp [Builtin.append_, run_underlying ht, sizeOf, typeInfo, hi, Builtin.lenOf, Builtin.firstCells, hs, CT.enc, hsa, hl, storeCells]

theorem part_blk {s : Sl} {l h m k : Nat} {g : Nat} (hg : (s.part l h m k).blk = some g) : s.blk = some g := by
  unfold Sl.part Sl.blk at *
  simp only at hg
  split at hg
  · exact hg
  · cases ha : s.a with
    | none => rw [ha] at hg; simp at hg
    | some p =>
      rw [ha] at hg
      simp only [Option.map_some] at hg ⊢
      have : (p.add (l * k)).block = p.block := by unfold Addr.add; split <;> rfl
      rw [this] at hg
      exact hg

/-- A row is cut out of a list. -/
theorem ls_cut {u : H} {s : Sl} {l : List Rw} {i : Nat} {ty : TypeId} {K : Sl → H → Prop} (h : Seg u s 2 (l.flatMap encR)) (hi : i < l.length) (hl : l.length ≤ 1000000)
    (hK : ∀ s' u', u.le u' → LsAt u' s' (l.take i ++ l.drop (i + 1)) → (∀ g, s'.blk = some g → s.blk = some g ∨ (u g = none ∧ u' g ≠ none)) → K s' u') :
    SemT Tryz.prog (Builtin.append_ #[22, 22] ty #[.slice (s.part 0 i i 2).a (s.part 0 i i 2).n (s.part 0 i i 2).c, .slice (s.part (i + 1) s.n s.c 2).a (s.part (i + 1) s.n s.c 2).n (s.part (i + 1) s.n s.c 2).c]) [.one .slice] u K := by
  have hn : s.n = l.length := flat_n encR_len (by decide) h
  have hc := h.cap
  have s1 : Seg u (s.part 0 i i 2) 2 ((l.take i).flatMap encR) := by
    have := Seg.part h (l := 0) (h := i) (m := i) (by omega) (by omega) (Nat.le_refl _) (by omega)
    rw [Nat.zero_mul, List.drop_zero, Nat.sub_zero, flat_take encR_len] at this
    exact this
  have s2 : Seg u (s.part (i + 1) s.n s.c 2) 2 ((l.drop (i + 1)).flatMap encR) := by
    have := Seg.part h (l := i + 1) (h := s.n) (m := s.c) (by omega) (Nat.le_refl _) hc (Nat.le_refl _)
    rw [flat_drop encR_len, flat_take encR_len, List.take_of_length_le (by rw [List.length_drop]; omega)] at this
    exact this
  have n1 : (s.part 0 i i 2).n = i := by simp [Sl.part]
  have c1 : (s.part 0 i i 2).c = i := by simp [Sl.part]
  have n2 : (s.part (i + 1) s.n s.c 2).n = s.n - (i + 1) := rfl
  by_cases h0 : (s.part (i + 1) s.n s.c 2).n = 0
  · have hd : l.drop (i + 1) = [] := List.drop_eq_nil_of_le (by omega)
    refine sem_append_none tRows (by omega) h0 (hK _ u (H.le.refl u) ?_ fun g hg => .inl (part_blk hg))
    rw [hd, List.append_nil]
    exact ⟨s1, .inr (by omega)⟩
  · have hxa : (s.part (i + 1) s.n s.c 2).a ≠ none := by
      rcases s2.at' with h1 | ⟨p, hp, _⟩
      · have := s2.len
        rw [h1] at this
        simp only [List.length_nil] at this
        omega
      · rw [hp]; simp
    refine sem_append_new tRows s1 s2 (by omega) (seg_nil_full s1 (by omega) (by decide)) hxa (by omega) (by omega) fun g c cur hg ho => hK _ _ (H.le_ins _ hg) ?_ fun g2 hg2 => ?_
    · rw [← List.flatMap_append] at ho
      exact ⟨ho.seg, .inl ho⟩
    · have : g2 = g := by simpa [Sl.blk] using hg2.symm
      rw [this]
      exact .inr ⟨hg, by rw [H.ins_same]; simp⟩

theorem cut_filter {l : List Rw} {i : Nat} {r : Rw} {id : Int} (hnd : (l.map (·.id)).Nodup) (h : l[i]? = some r) (hr : r.id = id) : l.take i ++ l.drop (i + 1) = l.filter fun x => x.id != id := by
  induction l generalizing i with
  | nil => simp at h
  | cons x l ih =>
    rw [List.map_cons, List.nodup_cons] at hnd
    cases i with
    | zero =>
      simp only [List.getElem?_cons_zero, Option.some.injEq] at h
      subst h
      simp only [List.take_zero, List.nil_append, List.drop_succ_cons, List.drop_zero, List.filter_cons, hr, bne_self_eq_false, Bool.false_eq_true, if_false]
      refine (List.filter_eq_self.2 fun y hy => ?_).symm
      have : y.id ≠ id := fun e => hnd.1 (List.mem_map.2 ⟨y, hy, by rw [e, hr]⟩)
      simpa using this
    | succ i =>
      simp only [List.getElem?_cons_succ] at h
      have hx : x.id ≠ id := fun e => hnd.1 (List.mem_map.2 ⟨r, List.mem_of_getElem? h, by rw [hr, e]⟩)
      rw [List.take_succ_cons, List.drop_succ_cons, List.cons_append, ih hnd.2 h, List.filter_cons, if_pos (by simpa using hx)]

theorem set_cut {ls : List (Sl × List Rw)} {k i : Nat} {l : Sl × List Rw} {r : Rw} {id : Int} (hnd : ((ls.flatMap (·.2)).map (·.id)).Nodup) (h : ls[k]? = some l) (hi : l.2[i]? = some r) (hr : r.id = id) (s' : Sl) :
    (ls.set k (s', l.2.take i ++ l.2.drop (i + 1))).flatMap (·.2) = (ls.flatMap (·.2)).filter fun x => x.id != id := by
  induction ls generalizing k with
  | nil => simp at h
  | cons x ls ih =>
    rw [List.flatMap_cons, List.map_append, List.nodup_append] at hnd
    obtain ⟨h1, h2, h3⟩ := hnd
    have self : ∀ {m : List Rw}, (∀ y ∈ m, y.id ≠ id) → m.filter (fun x => x.id != id) = m := fun hm => List.filter_eq_self.2 fun y hy => by simpa using hm y hy
    cases k with
    | zero =>
      simp only [List.getElem?_cons_zero, Option.some.injEq] at h
      subst h
      rw [List.set_cons_zero, List.flatMap_cons, List.flatMap_cons, List.filter_append, cut_filter h1 hi hr]
      congr 1
      exact (self fun y hy e => h3 r.id (List.mem_map.2 ⟨r, List.mem_of_getElem? hi, rfl⟩) y.id (List.mem_map.2 ⟨y, hy, rfl⟩) (by rw [e, hr])).symm
    | succ k =>
      simp only [List.getElem?_cons_succ] at h
      rw [List.set_cons_succ, List.flatMap_cons, List.flatMap_cons, List.filter_append, ih h2 h]
      congr 1
      refine (self fun y hy e => h3 y.id (List.mem_map.2 ⟨y, hy, rfl⟩) r.id (List.mem_map.2 ⟨r, List.mem_flatMap.2 ⟨l, List.mem_of_getElem? h, List.mem_of_getElem? hi⟩, rfl⟩) (by rw [e, hr])).symm

theorem where_filter (w : List (Int × Nat)) (id : Int) : (whereL w).filter (fun p => p.1 != id) = whereL (w.filter fun p => p.1 != id) := by
  unfold whereL
  rw [List.filter_map]
  rfl

end Go.Proofs.YtljbcihbgeiacaaGreat.Iv

/- VcIv5 -/
namespace Go.Proofs.YtljbcihbgeiacaaGreat.Iv

theorem bDel1 : hasBody Tryz.prog 62 = true := by kernel_rfl

theorem TrAt.wnodup {fp : Nat → Option Tg} {u : H} {b : Nat} {T : Tr} (h : TrAt fp u b T) : (T.w.map (·.1)).Nodup := by
  obtain ⟨es, c, _, he⟩ := h.map
  have := he.nodup
  unfold whereL at this
  rw [List.map_map] at this
  exact this

theorem TOk.wids {T : Tr} (h : TOk T) {id : Int} : id ∈ T.w.map (·.1) ↔ id ∈ (T.ls.flatMap (·.2)).map (·.id) := by
  constructor
  · intro hm
    obtain ⟨p, hp, e⟩ := List.mem_map.1 hm
    obtain ⟨l, hl, hid⟩ := (h.wh p.1 p.2).1 hp
    obtain ⟨r, hr, e2⟩ := List.mem_map.1 hid
    exact List.mem_map.2 ⟨r, List.mem_flatMap.2 ⟨l, List.mem_of_getElem? hl, hr⟩, by rw [e2, e]⟩
  · intro hm
    obtain ⟨r, hr, e⟩ := List.mem_map.1 hm
    obtain ⟨l, hl, hrl⟩ := List.mem_flatMap.1 hr
    obtain ⟨i, hi, rfl⟩ := List.getElem_of_mem hl
    exact List.mem_map.2 ⟨(id, i), (h.wh id i).2 ⟨_, List.getElem?_eq_getElem hi, List.mem_map.2 ⟨r, hrl, e⟩⟩, rfl⟩

theorem ixRows_ids (T : Tr) : (ixRows T).map (·.1) = (T.ls.flatMap (·.2)).map (·.id) := by unfold ixRows; rw [List.map_map]; rfl

theorem key_one {w : List (Int × Nat)} (hn : (w.map (·.1)).Nodup) {x : Int} {i j : Nat} (h1 : (x, i) ∈ w) (h2 : (x, j) ∈ w) : (x, i) = (x, j) := by
  induction w with
  | nil => cases h1
  | cons p w ih =>
    rw [List.map_cons, List.nodup_cons] at hn
    rcases List.mem_cons.1 h1 with h3 | h3
    · rcases List.mem_cons.1 h2 with h4 | h4
      · rw [h3, h4]
      · exact absurd (List.mem_map.2 ⟨_, h4, by rw [← h3]⟩) hn.1
    · rcases List.mem_cons.1 h2 with h4 | h4
      · exact absurd (List.mem_map.2 ⟨_, h3, by rw [← h4]⟩) hn.1
      · exact ih hn.2 h3 h4

/-- What a deletion leaves. -/
structure DelRes (u0 u : H) (fp : Nat → Option Tg) (b : Nat) (T : Tr) (id : Int) (u' : H) (fp' : Nat → Option Tg) (T' : Tr) : Prop where
  is : In u0 u' fp' b T'
  turn : TurnG u fp u' fp'
  ok : TOk T'
  rows : ixRows T' = (ixRows T).filter fun x => x.1 != id
  dim : T'.dim = T.dim
  cs : T'.cs = T.cs
  w : T'.w = T.w.filter fun p => p.1 != id

theorem spec.Delete {u0 u : H} {fp : Nat → Option Tg} {b : Nat} {T : Tr} {id : Int} {K : Bool → Int → H → Prop} (h : In u0 u fp b T) (hT : TOk T) (hno : id ∉ T.w.map (·.1) → ∀ u', u.le u' → K false 0 u')
    (hyes : id ∈ T.w.map (·.1) → ∀ u' fp' T', DelRes u0 u fp b T id u' fp' T' → K true 0 u') : C.ivf_Tree__Delete (some ⟨b, 0, none⟩) id u K := by
  apply vc.ivf_Tree__Delete
  intro n0 hn0
  have le1 : u.le (u.ins n0 (.cells #[.int .i64 id] 3 (0, 0))) := H.le_ins _ hn0
  have b0 : (u.ins n0 (.cells #[.int .i64 id] 3 (0, 0))) n0 = some (.cells #[.int .i64 id] 3 (0, 0)) := H.ins_same _ _ _
  have h1 := h.mono keep le1
  have hn0f : fp n0 = none := h.fresh hn0
  obtain ⟨u1, hu1⟩ : ∃ u1, u1 = u.ins n0 (.cells #[.int .i64 id] 3 (0, 0)) := ⟨_, rfl⟩
  rw [← hu1] at le1 b0 h1 ⊢
  obtain ⟨c0, c1, c2, c3⟩ := tree_cells h1.tr
  refine ⟨fun e => (by cases e), fun _ => ⟨_, rfl, _, c3, _, H.cell?_of b0 0, ?_⟩⟩
  refine sem_get2 whTy h1.tr.map (ct := .int .i64) (((getW T.w id).getD 0 : Nat) : Int) (by rw [getL_where]; cases getW T.w id <;> rfl) ?_
  have hsome : (getL (whereL T.w) id).isSome = decide (id ∈ T.w.map (·.1)) := by
    rw [getL_where, Option.isSome_map]
    cases e : getW T.w id with
    | none => rw [decide_eq_false (getW_none.1 e)]; rfl
    | some k => rw [decide_eq_true (List.mem_map.2 ⟨_, getW_mem e, rfl⟩)]; rfl
  rw [hsome]
  refine ⟨fun hb => ?_, fun hb => ?_⟩
  · exact hno (fun hm => hb (decide_eq_true hm)) _ le1
  have hin : id ∈ T.w.map (·.1) := of_decide_eq_true hb
  have hyes := hyes hin
  obtain ⟨k, hk⟩ : ∃ k, getW T.w id = some k := by
    cases e : getW T.w id with
    | none => exact absurd hin (getW_none.1 e)
    | some k => exact ⟨k, rfl⟩
  rw [hk, Option.getD_some]
  obtain ⟨l, hl, hidl⟩ := (hT.wh id k).1 (getW_mem hk)
  have hkl : k < T.ls.length := (List.getElem?_eq_some_iff.1 hl).1
  have hlsn := h1.tr.ls_len
  obtain ⟨hL, hLtag, hLrows⟩ := h1.tr.list k l hl
  obtain ⟨p, hp, hc⟩ := Seg.elem encSL_len (by decide) h1.tr.larr.seg hl
  have hcl := hc 0 _ rfl
  rw [Addr.add_zero'] at hcl
  have hpb : ∃ g cur, T.sl.a = some ⟨g, 0, none⟩ ∧ u1 g = some (.cells cur 22 (0, 0)) ∧ T.sl.blk = some g := by
    rcases h1.tr.larr.is with e1 | ⟨g, cur, e1, e2, _⟩
    · rw [e1] at hp; cases hp
    · exact ⟨g, cur, e1, e2, by simp [Sl.blk, e1]⟩
  obtain ⟨g, cur, hga, hgu, hgb⟩ := hpb
  have hgt := h1.tr.lblk g hgb
  obtain rfl : p = ⟨g, 0, none⟩ := by rw [hga] at hp; exact (Option.some.inj hp).symm
  have nl : ∀ {c t}, fp c = some t → t ≠ .list k → l.1.blk ≠ some c := fun hc ht e => ht (by have := hLtag _ e; rw [hc] at this; exact Option.some.inj this)
  refine ⟨_, rfl, _, c3, _, H.cell?_of b0 0, sem_del whTy h1.tr.map fun o hm => ?_⟩
  have hmN : ∀ c, fp c ≠ some .map → c ≠ T.m := fun c hc e => hc (by rw [e]; exact h1.tr.mtag)
  have e1 : ∀ c x, u1 c = some x → fp c ≠ some .map → (u1.ins T.m o) c = some x := fun c x hx h3 => by rw [H.ins_other _ _ (hmN c h3)]; exact hx
  obtain ⟨v, hv⟩ : ∃ v, v = u1.ins T.m o := ⟨_, rfl⟩
  rw [← hv] at hm e1 ⊢
  have vnone : ∀ c, v c = none → u1 c = none := fun c hc => by
    by_cases e : c = T.m
    · rw [hv, e, H.ins_same] at hc; cases hc
    · rw [hv, H.ins_other _ _ e] at hc; exact hc
  have cb : v b = some (.cells (treeC T).toArray 98 (0, 0)) := e1 _ _ h1.tr.cell (by rw [h1.tr.btag]; simp)
  have hgv := e1 g _ hgu (by rw [hgt]; simp)
  have hclv : v.cell? (Addr.add ⟨g, 0, none⟩ (k * 1)) = some (.slice l.1.a l.1.n l.1.c) := by
    rw [Addr.add_lit] at hcl ⊢
    unfold H.cell? at hcl ⊢
    simp only [hgu, hgv] at hcl ⊢
    exact hcl
  have hn0v : v n0 = some (.cells #[.int .i64 id] 3 (0, 0)) := e1 _ _ b0 (by rw [hn0f]; simp)
  have hsegv : Seg v l.1 2 (l.2.flatMap encR) := Seg.else hL.seg fun c x hc hx => e1 c x hx (by rw [hLtag c hc]; simp)
  have hln : l.1.n = l.2.length := flat_n encR_len (by decide) hsegv
  have hLl : l.2.length < 1000000 := by
    have h1 := (sub_sum (f := fun l : Sl × List Rw => l.2) (List.mem_of_getElem? hl)).length_le
    rw [← hT.wlen] at h1
    have := hT.small
    omega
  have hlnd : (l.2.map (·.id)).Nodup := hT.nodup.sublist ((sub_sum (f := fun l : Sl × List Rw => l.2) (List.mem_of_getElem? hl)).map _)
  refine ⟨_, rfl, T.sl, H.cell?_of cb 2, _, hga, ⟨by omega, by omega⟩, l.1, by rw [Int.toNat_natCast]; exact hclv, ?_⟩
  refine spec.slices_IndexFunc__api_Row_ (p := fun r => decide (r.id = id)) (l := l.2) hsegv (fun r w K' hw hk' => .inl ⟨_, _, rfl, bodyOf bDel1, vc.ivf_Tree__Delete_1 _ _ _ _ _ ⟨_, H.cell?_of (hw _ _ hn0v) 0, hk'⟩⟩) (H.le.refl v) (fun i r hr _ hpr => ?_) fun hN => (by
    obtain ⟨r, hr, e⟩ := List.mem_map.1 hidl
    have := of_decide_eq_false (hN r hr)
    exact absurd e this)
  have hrid : r.id = id := of_decide_eq_true hpr
  have hil : i < l.2.length := (List.getElem?_eq_some_iff.1 hr).1
  -- behind the cut
  have fin : ∀ {ty : TypeId}, SemT Tryz.prog (Builtin.append_ #[22, 22] ty #[.slice (l.1.part 0 i i 2).a (l.1.part 0 i i 2).n (l.1.part 0 i i 2).c, .slice (l.1.part (i + 1) l.1.n l.1.c 2).a (l.1.part (i + 1) l.1.n l.1.c 2).n (l.1.part (i + 1) l.1.n l.1.c 2).c]) [.one .slice] v
      fun s23 u24 => v.le u24 ∧ ∃ r25 : Addr, T.sl.a = some r25 ∧ ((0 : Int) ≤ (k : Int) ∧ (k : Int) < (T.sl.n : Int)) ∧ H.St u24 (r25.add ((k : Int).toNat * 1)) [.slice s23.a s23.n s23.c] fun u26 => K true 0 u26 := by
    intro ty
    refine ls_cut hsegv hil (by omega) fun s' u2 l2 hL' hb' => ⟨l2, _, hga, ⟨by omega, by omega⟩, ?_⟩
    have hla2 : Own u2 22 1 T.sl (T.ls.flatMap fun l => encS l.1) := h1.tr.larr.le fun c o hc hu => l2 _ _ (e1 c o hu (by rw [h1.tr.lblk c hc]; simp))
    rw [Int.toNat_natCast]
    refine OwnF.store (enc := fun l : Sl × List Rw => encS l.1) encSL_len hla2.f (by decide) (i := k) hkl (y := (s', l.2.take i ++ l.2.drop (i + 1))) (by simp [encS, Value.oneCell']) hga fun u3 ho3 he3 hn3 => ?_
    have hs'g : s'.blk ≠ some g := fun e => by
      rcases hb' g e with h2 | h2
      · exact nl hgt (by simp) h2
      · rw [hgv] at h2; cases h2.1
    have e3 : ∀ c x, u c = some x → fp c ≠ some .larr → fp c ≠ some .map → u3 c = some x := fun c x hx h2 h3 => he3 c x (l2 _ _ (e1 c x (le1 _ _ hx) h3)) fun e => h2 (h1.tr.lblk c e)
    have e31 : ∀ c x, u1 c = some x → fp c ≠ some .larr → fp c ≠ some .map → u3 c = some x := fun c x hx h2 h3 => he3 c x (l2 _ _ (e1 c x hx h3)) fun e => h2 (h1.tr.lblk c e)
    have hnew : ∀ c, s'.blk = some c → fp c = some (.list k) ∨ (fp c = none ∧ u c = none ∧ u2 c ≠ none) := fun c hc => by
      rcases hb' c hc with h2 | h2
      · exact .inl (hLtag c h2)
      · have h3 := vnone c h2.1
        exact .inr ⟨h1.fresh h3, le1.none h3, h2.2⟩
    have hL3 : LsAt u3 s' (l.2.take i ++ l.2.drop (i + 1)) := hL'.keep fun c x hc hx => he3 c x hx fun e => hs'g (by
      have : c = g := by rw [hgb] at e; exact (Option.some.inj e).symm
      rw [hc, this])
    let fp' : Nat → Option Tg := fun c => open Classical in if s'.blk = some c then some (.list k) else if l.1.blk = some c then none else fp c
    have f2 : ∀ c, s'.blk = some c → fp' c = some (.list k) := fun c hc => if_pos hc
    have f1 : ∀ c, fp c ≠ none → fp c ≠ some (.list k) → fp' c = fp c := fun c hc h2 => by
      have h4 : s'.blk ≠ some c := fun e => by
        rcases hnew c e with h3 | h3
        · exact h2 h3
        · exact hc h3.1
      show (if s'.blk = some c then _ else _) = _
      rw [if_neg h4, if_neg fun e => h2 (hLtag c e)]
    have f3 : ∀ c, fp' c ≠ none → (s'.blk = some c ∧ (fp c ≠ none ∨ u c = none)) ∨ (s'.blk ≠ some c ∧ l.1.blk ≠ some c ∧ fp c ≠ none) := fun c hc => by
      by_cases e : s'.blk = some c
      · exact .inl ⟨e, (hnew c e).imp (fun h1 => by rw [h1]; simp) fun h1 => h1.2.1⟩
      · by_cases e2 : l.1.blk = some c
        · have : fp' c = none := by
            show (if s'.blk = some c then _ else _) = _
            rw [if_neg e, if_pos e2]
          exact absurd this hc
        · have : fp' c = fp c := by
            show (if s'.blk = some c then _ else _) = _
            rw [if_neg e, if_neg e2]
          rw [this] at hc
          exact .inr ⟨e, e2, hc⟩
    have hsub : ∀ r' ∈ l.2.take i ++ l.2.drop (i + 1), r' ∈ l.2 := fun r' hr' => by
      rcases List.mem_append.1 hr' with h2 | h2
      · exact List.mem_of_mem_take h2
      · exact List.mem_of_mem_drop h2
    have rowsAt : ∀ r' ∈ l.2.take i ++ l.2.drop (i + 1), Ints u3 r'.s r'.v ∧ ∀ c, r'.s.blk = some c → fp' c = some .vec := by
      intro r' hr'
      obtain ⟨i1, i2⟩ := hLrows r' (hsub r' hr')
      exact ⟨Seg.else i1 fun c x hc hx => e31 c x hx (by rw [i2 c hc]; simp) (by rw [i2 c hc]; simp), fun c hc => by rw [f1 c (by rw [i2 c hc]; simp) (by rw [i2 c hc]; simp)]; exact i2 c hc⟩
    have hm3 : MapAt u3 T.m (whereL (T.w.filter fun p => p.1 != id)) := by
      rw [← where_filter]
      exact hm.else fun x hx => he3 _ x (l2 _ _ hx) fun e => by
        have := h1.tr.lblk _ e
        rw [h1.tr.mtag] at this; cases this
    have hTr := h1.tr.relist (i := k) (w' := T.w.filter fun p => p.1 != id) hL3 f2 rowsAt ho3.own hm3 (fun c x hc _ h2 _ h4 => e31 c x hc h2 h4) f1
    have u0le : u0.le u3 := fun c x hc => by
      have hf : fp c = none := by
        cases e : fp c with
        | none => rfl
        | some t => have := h.out c (by rw [e]; simp); rw [hc] at this; cases this
      exact e3 c x (h.le c x hc) (by rw [hf]; simp) (by rw [hf]; simp)
    have hrows := set_cut hT.nodup hl hr hrid s'
    have each : ∀ {j : Nat} {y : Sl × List Rw}, (T.ls.set k (s', l.2.take i ++ l.2.drop (i + 1)))[j]? = some y → (j = k ∧ y = (s', l.2.take i ++ l.2.drop (i + 1))) ∨ (j ≠ k ∧ T.ls[j]? = some y) := fun {j y} hy => by
      by_cases e : j = k
      · subst e
        rw [List.getElem?_set_self (by omega)] at hy
        exact .inl ⟨rfl, (Option.some.inj hy).symm⟩
      · rw [List.getElem?_set_ne (Ne.symm e)] at hy
        exact .inr ⟨e, hy⟩
    have memS : ∀ y ∈ T.ls.set k (s', l.2.take i ++ l.2.drop (i + 1)), ∀ r' ∈ y.2, ∃ z ∈ T.ls, r' ∈ z.2 := fun y hy r' hr' => by
      have : r' ∈ (T.ls.flatMap (·.2)).filter fun x => x.id != id := by rw [← hrows]; exact List.mem_flatMap.2 ⟨y, hy, hr'⟩
      obtain ⟨z, hz, hrz⟩ := List.mem_flatMap.1 (List.mem_filter.1 this).1
      exact ⟨z, hz, hrz⟩
    refine hyes _ fp' { T with ls := T.ls.set k (s', l.2.take i ++ l.2.drop (i + 1)), w := T.w.filter fun p => p.1 != id } ⟨⟨hTr, u0le, fun c hc => ?_, fun c hc => ?_⟩, ⟨fun c x hc hf => e3 c x hc (by rw [hf]; simp) (by rw [hf]; simp), fun c hc => ?_⟩, ?_, ?_, rfl, rfl, rfl⟩
    · rcases f3 c hc with ⟨_, h1 | h1⟩ | ⟨_, _, h1⟩
      · exact h.out c h1
      · exact h.le.none h1
      · exact h.out c h1
    · rcases f3 c hc with ⟨h2, _⟩ | ⟨_, h2, h3⟩
      · rcases hnew c h2 with h5 | ⟨_, _, h5⟩
        · obtain ⟨x, hx⟩ := Option.ne_none_iff_exists'.1 (h.known c (by rw [h5]; simp))
          rw [e3 c x hx (by rw [h5]; simp) (by rw [h5]; simp)]; simp
        · obtain ⟨x, hx⟩ := Option.ne_none_iff_exists'.1 h5
          rw [he3 c x hx fun e => hs'g (by
            have : c = g := by rw [hgb] at e; exact (Option.some.inj e).symm
            rw [h2, this])]
          simp
      · by_cases e2 : T.sl.blk = some c
        · exact own_known ho3 e2
        · by_cases e : c = T.m
          · obtain ⟨es, cl, hx, _⟩ := hm3
            rw [e, hx]; simp
          · obtain ⟨x, hx⟩ := Option.ne_none_iff_exists'.1 (h1.known c h3)
            have : v c = some x := by rw [hv, H.ins_other _ _ e]; exact hx
            rw [he3 c x (l2 _ _ this) e2]; simp
    · rcases f3 c hc with ⟨_, h1⟩ | ⟨_, _, h1⟩
      · exact h1
      · exact .inl h1
    · refine ⟨hT.dm, ⟨by simp [hT.many.1], hT.many.2⟩, hT.cvok, fun y hy r' hr' => ?_, fun y hy r' hr' => ?_, ?_, fun x j => ?_, ?_, Nat.le_trans (List.length_filter_le _ _) hT.small, fun j y hy r' hr' => ?_⟩
      · obtain ⟨z, hz, hrz⟩ := memS y hy r' hr'
        exact hT.vec z hz r' hrz
      · obtain ⟨z, hz, hrz⟩ := memS y hy r' hr'
        exact hT.ids z hz r' hrz
      · show ((List.flatMap (·.2) (T.ls.set k _)).map _).Nodup
        rw [hrows]
        exact hT.nodup.sublist (List.filter_sublist.map _)
      · simp only [List.mem_filter, bne_iff_ne, ne_eq]
        constructor
        · rintro ⟨h2, h3⟩
          obtain ⟨y, hy, hmy⟩ := (hT.wh x j).1 h2
          by_cases e : j = k
          · subst e
            rw [hl] at hy; cases hy
            refine ⟨_, List.getElem?_set_self (by omega), ?_⟩
            rw [show ((s', l.2.take i ++ l.2.drop (i + 1)) : Sl × List Rw).2 = l.2.take i ++ l.2.drop (i + 1) from rfl, cut_filter hlnd hr hrid]
            obtain ⟨z, hz, rfl⟩ := List.mem_map.1 hmy
            exact List.mem_map.2 ⟨z, List.mem_filter.2 ⟨hz, by simpa using h3⟩, rfl⟩
          · exact ⟨y, by rw [List.getElem?_set_ne (Ne.symm e)]; exact hy, hmy⟩
        · rintro ⟨y, hy, hmy⟩
          rcases each hy with ⟨rfl, rfl⟩ | ⟨hne, hy⟩
          · rw [show ((s', l.2.take i ++ l.2.drop (i + 1)) : Sl × List Rw).2 = l.2.take i ++ l.2.drop (i + 1) from rfl, cut_filter hlnd hr hrid] at hmy
            obtain ⟨z, hz, rfl⟩ := List.mem_map.1 hmy
            obtain ⟨hz1, hz2⟩ := List.mem_filter.1 hz
            exact ⟨(hT.wh z.id j).2 ⟨l, hl, List.mem_map.2 ⟨z, hz1, rfl⟩⟩, by simpa using hz2⟩
          · refine ⟨(hT.wh x j).2 ⟨y, hy, hmy⟩, fun e => hne ?_⟩
            -- an id stands in one list only
            have w1 := (hT.wh x j).2 ⟨y, hy, hmy⟩
            have w2 := getW_mem hk
            rw [e] at w1
            have := h.tr.wnodup
            exact (Prod.mk.inj (key_one this w1 w2)).2
      · have hp0 : (T.w.map (·.1)).Perm ((T.ls.flatMap (·.2)).map (·.id)) := (List.perm_ext_iff_of_nodup h.tr.wnodup hT.nodup).2 fun x => hT.wids
        have hp1 := (hp0.filter fun x => x != id).length_eq
        rw [List.filter_map, List.filter_map, List.length_map, List.length_map] at hp1
        show (T.w.filter fun p => p.1 != id).length = (List.flatMap (·.2) (T.ls.set k _)).length
        rw [hrows]
        exact hp1
      · rcases each hy with ⟨rfl, rfl⟩ | ⟨hne, hy⟩
        · exact hT.near j l hl r' (hsub r' hr')
        · exact hT.near j y hy r' hr'
    · show (List.flatMap (·.2) (T.ls.set k _)).map Rw.pr = _
      rw [hrows]
      unfold ixRows
      rw [List.filter_map]
      rfl
  have hcap := hsegv.cap
  have sl1 : ∀ {w : H} {F : Sl → H → Prop}, F (l.1.part 0 i i 2) w → SemT Tryz.prog (Instr.sliceAt 22 (.slice l.1.a l.1.n l.1.c) none (some (.int .i64 (i : Int))) (some (.int .i64 (i : Int)))) [.one .slice] w F := fun hF =>
    sem_slice tRows (l := 0) (h := i) (m := i) (.inl ⟨rfl, rfl⟩) (.inr rfl) (.inr ⟨rfl, by simp⟩) (by omega) (Nat.le_refl _) (by omega) hcap hF
  have sl2 : ∀ {w : H} {F : Sl → H → Prop}, F (l.1.part (i + 1) l.1.n l.1.c 2) w → SemT Tryz.prog (Instr.sliceAt 22 (.slice l.1.a l.1.n l.1.c) (some (.int .i64 ((i : Int) + 1))) none none) [.one .slice] w F := fun hF =>
    sem_slice tRows (l := i + 1) (h := l.1.n) (m := l.1.c) (.inr rfl) (.inl ⟨rfl, rfl⟩) (.inl ⟨rfl, rfl⟩) (by omega) hcap (Nat.le_refl _) hcap hF
  exact ⟨_, rfl, ⟨by omega, by omega⟩, T.sl, H.cell?_of cb 2, sl1 ⟨H.le.refl _, sl2 ⟨H.le.refl _, fin⟩⟩, sl2 ⟨H.le.refl _, sl1 ⟨H.le.refl _, fin⟩⟩⟩

end Go.Proofs.YtljbcihbgeiacaaGreat.Iv

/- VcConc -/
namespace Go.Proofs.YtljbcihbgeiacaaGreat

theorem run_grow_nil {P : Program} (w : World) (t tI ty e : TypeId) (i : TypeInfo) (z : Value) (ht : P.underlying t = some (.slice e)) (hI : P.underlying tI = some (.int .i64)) (hi : P.info? e = some i) (hz : i.zero = some z) (hs : 0 < i.size)
    (n : Nat) (h0 : 0 < n) (h63 : (n : Int) ≤ 9223372036854775807) (h48 : n * i.bytes ≤ 281474976710656) :
    (Builtin.append_ #[t, tI] ty #[.slice none 0 0, .int .i64 n]).run P w =
      .ok (.slice (some ⟨w.heap.size, 0, none⟩) n (grownCap w n 0 e)) (w.drew.alloc (.cells (Builtin.zeroCells z.cells n ++ Builtin.zeroCells z.cells (grownCap w n 0 e - n)) e)) := by
  have hw : IntKind.i64.wrap (n : Int) = n := IntWalk.i64_in _ (by omega)
  have hn : n ≠ 0 := by omega
  have hn' : ¬ ((n : Int) < 0) := by omega
  have h63' : ¬ (9223372036854775807 < (n : Int)) := by omega
  have h48' : ¬ (281474976710656 < Builtin.nextslicecap n 0 * i.bytes) := by rw [nextslicecap_zero h0]; omega
  have h48'' : ¬ (281474976710656 < (n : Int) * (i.bytes : Int)) := by
    have : ((n * i.bytes : Nat) : Int) = (n : Int) * (i.bytes : Int) := by simp
    omega
  have hsz : ¬ (n * i.size = 0) := by
    intro h
    rcases Nat.mul_eq_zero.1 h with h | h <;> omega
  have hs0 : i.size ≠ 0 := by omega
  have ha : ∀ w', (asIntOf (.int .i64 (n : Int))).run P w' = .ok (.i64, (n : Int)) w' := fun _ => rfl
  simp [ha, Builtin.append_, run_underlying ht, run_underlying hI, sizeOf, typeInfo, zeroValue, hi, hz, asInt, hw, hn, hn', h63', h48', h48'', Question.forced, run_firstCells_none, newRow, grownCap]
  exact fun h => absurd h hsz

theorem sem_grow_nil {P : Program} {t tI ty e : TypeId} {size bytes : Nat} {zs : List Value} (hT : elemT P t = some (e, size, bytes, zs)) (hI : P.underlying tI = some (.int .i64)) (hsz : 0 < size) {n : Nat} (h0 : 0 < n) (h63 : (n : Int) ≤ 9223372036854775807) (h48 : n * bytes ≤ 140737488355328)
    {u : H} {K : Sl → H → Prop} (hK : ∀ s' u' xs, OwnF u u' e size s' xs → s'.n = n → K s' u') :
    SemT P (Builtin.append_ #[t, tI] ty #[.slice none 0 0, .int .i64 n]) [.one .slice] u K := by
  obtain ⟨ht, i, z, hi, hz, hsize, hby, hzs, _⟩ := elemT_spec hT
  subst hsize
  subst hby
  refine .one (c := .slice) fun w hw => ?_
  have hge := grownCap_ge w n 0 e
  have hcm := grownCap_le_maxLen w n 0 e (by rw [maxLen_eq]; omega)
  rw [maxLen_eq] at hcm
  have hr := run_grow_nil (P := P) w t tI ty e i z ht hI hi hz hsz n h0 h63 (by omega)
  obtain ⟨o, ho⟩ : ∃ o, o = Builtin.zeroCells z.cells n ++ Builtin.zeroCells z.cells (grownCap w n 0 e - n) := ⟨_, rfl⟩
  rw [← ho] at hr
  have hst := step_new hw (.cells o e)
  have hosz : o.size = grownCap w n 0 e * i.size := by
    rw [ho, Array.size_append, size_zeroCells, size_zeroCells, hzs, ← Nat.add_mul]
    congr 1
    omega
  refine ⟨⟨some ⟨w.heap.size, 0, none⟩, n, grownCap w n 0 e⟩, _, _, hr, hK _ _ (o.toList.take (n * i.size)) ⟨⟨?_, .inr ⟨w.heap.size, o, rfl, H.ins_same _ _ _, hge, hcm, hosz, rfl⟩⟩, H.le_ins _ hst.2, fun g hg => ?_⟩ rfl, hst.1⟩
  · rw [List.length_take, Array.length_toList, hosz]
    exact Nat.min_eq_left (Nat.mul_le_mul_right _ hge)
  · have : w.heap.size = g := by simpa [Sl.blk] using hg
    rw [← this]
    exact hst.2

theorem tInt3 : Tryz.prog.underlying 3 = some (.int .i64) := by kernel_rfl

theorem spec.slices_Grow__api_Row_ {n : Nat} {u : H} {K : Sl → H → Prop} (hn : n ≤ 1000000) (hK : ∀ s' u', OwnF u u' 43 2 s' [] → s'.n = 0 → K s' u') : C.slices_Grow__api_Row_ ⟨none, 0, 0⟩ n u K := by
  apply vc.slices_Grow__api_Row_
  intro K0 h0
  refine ⟨fun h => by omega, fun _ => h0 _ ⟨⟨by simp, by simp⟩, ⟨by simp only; omega, by simp only; omega⟩, fun hpos => ?_, fun _ => hK _ _ (OwnF.nil (H.le.refl u) _ _) rfl⟩⟩
  have hn0 : 0 < n := by
    have : (0 : Int) < (n : Int) - (((0 : Nat) : Int) - ((0 : Nat) : Int)) := hpos
    omega
  refine sem_slice tRows (s := ⟨none, 0, 0⟩) (l := 0) (h := 0) (m := 0) (.inl ⟨rfl, rfl⟩) (.inr rfl) (.inl ⟨rfl, rfl⟩) (Nat.le_refl _) (Nat.le_refl _) (Nat.le_refl _) (Nat.le_refl _) ?_
  have e1 : (⟨none, 0, 0⟩ : Sl).part 0 0 0 2 = ⟨none, 0, 0⟩ := rfl
  rw [e1]
  have e2 : (n : Int) - (((⟨none, 0, 0⟩ : Sl).c : Int) - ((⟨none, 0, 0⟩ : Sl).n : Int)) = (n : Int) := by simp
  rw [e2]
  refine sem_grow_nil tRows tInt3 (by decide) hn0 (by omega) (by omega) fun s' u' xs ho hs' => ?_
  obtain ⟨hf, _, hfn⟩ := ho.front (m := 0) (Nat.zero_le _)
  have hc : s'.n ≤ s'.c := ho.own.seg.cap
  refine sem_slice tRows (l := 0) (h := 0) (m := s'.c) (.inl ⟨rfl, rfl⟩) (.inr rfl) (.inl ⟨rfl, rfl⟩) (Nat.le_refl _) (Nat.zero_le _) (Nat.le_refl _) hc ?_
  rw [Nat.zero_mul, List.take_zero] at hf
  exact hK _ _ hf hfn

theorem flat_len_take_succ {ls : List (Sl × List Rw)} {i : Nat} {l : Sl × List Rw} (h : ls[i]? = some l) : ((ls.take (i + 1)).flatMap (·.2)) = (ls.take i).flatMap (·.2) ++ l.2 := by
  rw [List.take_add_one, h, Option.toList, List.flatMap_append]
  simp

theorem flat_len_le (ls : List (Sl × List Rw)) (i : Nat) : ((ls.take i).flatMap (·.2)).length ≤ (ls.flatMap (·.2)).length := by
  conv => rhs; rw [← List.take_append_drop i ls]
  rw [List.flatMap_append, List.length_append]
  omega

theorem spec.slices_Concat__api_Row_ {u : H} {s : Sl} {ls : List (Sl × List Rw)} {K : Sl → H → Prop} (hs : Seg u s 1 (ls.flatMap fun l => encS l.1)) (hl : ∀ l ∈ ls, Seg u l.1 2 (l.2.flatMap encR)) (hn : (ls.flatMap (·.2)).length ≤ 1000000)
    (hK : ∀ s' u', OwnF u u' 43 2 s' ((ls.flatMap (·.2)).flatMap encR) → K s' u') : C.slices_Concat__api_Row_ s u K := by
  have hlen : ∀ l : Sl × List Rw, (encS l.1).length = 1 := fun _ => rfl
  have hsn : s.n = ls.length := flat_n hlen (by decide) hs
  have hsm := Nat.le_trans hs.cap hs.max
  have at' : ∀ {v : H} {x : Int}, u.le v → 0 ≤ x → x < (s.n : Int) → ∃ p l, s.a = some p ∧ ls[x.toNat]? = some l ∧ v.cell? (p.add (x.toNat * 1)) = some (.slice l.1.a l.1.n l.1.c) ∧ Seg v l.1 2 (l.2.flatMap encR) ∧ l.1.n = l.2.length := fun {v x} hv x0 x1 => by
    have hxl : x.toNat < ls.length := by omega
    have hx : ls[x.toNat]? = some ls[x.toNat] := List.getElem?_eq_getElem hxl
    obtain ⟨p, hp, hc⟩ := Seg.elem hlen (by decide) (hs.mono hv) hx
    have h2 := (hl _ (List.getElem_mem hxl)).mono hv
    exact ⟨p, _, hp, hx, hc 0 _ rfl, h2, flat_n encR_len (by decide) h2⟩
  apply vc.slices_Concat__api_Row_
  refine ⟨fun n i v => v = u ∧ 0 ≤ i ∧ i ≤ s.n ∧ n = (((ls.take i.toNat).flatMap (·.2)).length : Nat), fun _ i _ => ((s.n : Int) - i).toNat, ⟨rfl, by omega, by omega, by simp⟩, ?_⟩
  rintro n i v ⟨rfl, i0, i1, rfl⟩
  refine ⟨fun hi => ?_, fun hi => ?_⟩
  · obtain ⟨p, l, hp, hx, c0, h2, h3⟩ := at' (H.le.refl v) i0 hi
    have hs2 := flat_len_take_succ hx
    have hle := flat_len_le ls (i.toNat + 1)
    rw [hs2, List.length_append] at hle
    refine ⟨p, hp, ⟨i0, hi⟩, _, c0, ⟨by omega, by omega⟩, fun h => by omega, fun _ => ⟨⟨by omega, by omega⟩, ⟨rfl, by omega, by omega, ?_⟩, by dsimp only; omega⟩⟩
    rw [show (i + 1).toNat = i.toNat + 1 by omega, hs2, List.length_append, h3]
    simp
  · have hall : ls.take i.toNat = ls := List.take_of_length_le (by omega)
    rw [hall]
    refine spec.slices_Grow__api_Row_ hn fun s7 u8 o7 n7 => ?_
    refine ⟨fun s11 x w => 0 ≤ x ∧ x ≤ s.n ∧ OwnF v w 43 2 s11 (((ls.take x.toNat).flatMap (·.2)).flatMap encR), fun _ x _ => ((s.n : Int) - x).toNat, ⟨by omega, by omega, by simpa using o7⟩, ?_⟩
    rintro s11 x w ⟨x0, x1, ho⟩
    refine ⟨fun hx => ?_, fun hx => ?_⟩
    · obtain ⟨p, l, hp, hxl, c0, h2, h3⟩ := at' ho.le x0 hx
      have hs2 := flat_len_take_succ hxl
      have hle := flat_len_le ls (x.toNat + 1)
      rw [hs2, List.length_append] at hle
      have hn11 : s11.n = ((ls.take x.toNat).flatMap (·.2)).length := flat_n encR_len (by decide) ho.own.seg
      refine ⟨p, hp, ⟨x0, hx⟩, _, c0, sem_appendF tRows (by decide) ho h2 flatR_one (by omega) (by omega) fun s' u' ho' _ => ⟨⟨by omega, by omega⟩, ⟨by omega, by omega, ?_⟩, by dsimp only; omega⟩⟩
      rw [show (x + 1).toNat = x.toNat + 1 by omega, hs2, List.flatMap_append]
      exact ho'
    · rw [List.take_of_length_le (by omega)] at ho
      exact hK _ _ ho

end Go.Proofs.YtljbcihbgeiacaaGreat

/- VcIv6 -/
namespace Go.Proofs.YtljbcihbgeiacaaGreat.Iv

theorem wh_len (T : Tr) : (whereL T.w).length = T.w.length := by simp [whereL]
theorem TOk.rlen {T : Tr} (h : TOk T) : (ixRows T).length = T.w.length := by rw [h.wlen]; simp [ixRows]

theorem spec.Len {u0 u : H} {fp : Nat → Option Tg} {b : Nat} {T : Tr} {K : Int → H → Prop} (h : In u0 u fp b T) (hT : TOk T) (hK : K (ixRows T).length u) : C.ivf_Tree__Len (some ⟨b, 0, none⟩) u K := by
  obtain ⟨_, _, _, c3⟩ := tree_cells h.tr
  apply vc.ivf_Tree__Len
  refine ⟨fun e => (by cases e), fun _ => ⟨_, rfl, _, c3, sem_maplen whTy h.tr.map ?_⟩⟩
  rw [wh_len, ← hT.rlen]
  exact hK

theorem spec.Rows {u0 u : H} {fp : Nat → Option Tg} {b : Nat} {T : Tr} {K : Sl → H → Prop} (h : In u0 u fp b T) (hT : TOk T) (hK : ∀ s ls u', RowsO u u' s ls → (ls.map Rw.pr).Perm (ixRows T) → (ls.Pairwise fun a b => a.id ≤ b.id) → K s u') :
    C.ivf_Tree__Rows (some ⟨b, 0, none⟩) u K := by
  obtain ⟨_, _, c2, _⟩ := tree_cells h.tr
  have hw := hT.wlen
  have hsm := hT.small
  have hv : ∀ r ∈ T.ls.flatMap (·.2), Ints u r.s r.v := fun r hr => by
    obtain ⟨l, hl, hrl⟩ := List.mem_flatMap.1 hr
    obtain ⟨i, hi, rfl⟩ := List.getElem_of_mem hl
    exact ((h.tr.list i _ (List.getElem?_eq_getElem hi)).2.2 r hrl).1
  apply vc.ivf_Tree__Rows
  refine ⟨fun e => (by cases e), fun _ => ⟨_, rfl, T.sl, c2, spec.slices_Concat__api_Row_ h.tr.larr.seg (fun l hl => ?_) (by omega) fun s' u' ho => ?_⟩⟩
  · obtain ⟨i, hi, rfl⟩ := List.getElem_of_mem hl
    exact (h.tr.list i _ (List.getElem?_eq_getElem hi)).1.seg
  · have hr : Rws u' s' (T.ls.flatMap (·.2)) := ⟨ho.own.seg, fun r hr => (hv r hr).mono ho.le⟩
    refine spec.flat_Own hr (fun r hr => ?_) (by omega) (fun r hr => ?_) fun s2 ls u2 hR hp hs => ?_
    · obtain ⟨l, hl, hrl⟩ := List.mem_flatMap.1 hr
      exact hT.ids l hl r hrl
    · obtain ⟨l, hl, hrl⟩ := List.mem_flatMap.1 hr
      have := (hT.vec l hl r hrl).1
      have := hT.dm
      omega
    · exact hK s2 ls u2 ⟨hR.own.weaken ho.le, fun r hr => (hR.inner r hr).weaken ho.le, hR.far, hR.apart⟩ hp hs

/-- What a put leaves. -/
structure PutRes (u0 u : H) (fp : Nat → Option Tg) (b : Nat) (T : Tr) (id : Int) (v : List Int) (u' : H) (fp' : Nat → Option Tg) (T' : Tr) : Prop where
  is : In u0 u' fp' b T'
  turn : TurnG u fp u' fp'
  ok : TOk T'
  rows : (ixRows T').Perm ((id, v) :: (ixRows T).filter fun x => x.1 != id)
  dim : T'.dim = T.dim
  cs : T'.cs = T.cs

theorem spec.Put {u0 u : H} {fp : Nat → Option Tg} {b : Nat} {T : Tr} {id : Int} {t : Sl} {q : List Int} {K : Bool → Int → H → Prop} (h : In u0 u fp b T) (hT : TOk T) (ht : Ints u t q) (hkeep : ∀ u1 fp1, u0.le u1 → TurnG u fp u1 fp1 → Ints u1 t q)
    (hbad : mayErr id q T.dim (decide (id ∈ (ixRows T).map (·.1))) (ixRows T).length ≠ 0 → K false (mayErr id q T.dim (decide (id ∈ (ixRows T).map (·.1))) (ixRows T).length) u)
    (hok : mayErr id q T.dim (decide (id ∈ (ixRows T).map (·.1))) (ixRows T).length = 0 → ∀ u' fp' T', PutRes u0 u fp b T id q u' fp' T' → K (decide (id ∉ (ixRows T).map (·.1))) 0 u') : C.ivf_Tree__Put (some ⟨b, 0, none⟩) id t u K := by
  obtain ⟨c0, _, _, c3⟩ := tree_cells h.tr
  have hmem : (id ∈ T.w.map (·.1)) ↔ id ∈ (ixRows T).map (·.1) := by rw [ixRows_ids]; exact hT.wids
  have ed : decide (id ∈ T.w.map (·.1)) = decide (id ∈ (ixRows T).map (·.1)) := decide_eq_decide.2 hmem
  have hlen := hT.rlen
  apply vc.ivf_Tree__Put
  refine ⟨fun e => (by cases e), fun _ => ⟨_, rfl, _, c3, ?_⟩⟩
  refine sem_get2 whTy h.tr.map (ct := .int .i64) (((getW T.w id).getD 0 : Nat) : Int) (by rw [getL_where]; cases getW T.w id <;> rfl) ?_
  have hsome : (getL (whereL T.w) id).isSome = decide (id ∈ (ixRows T).map (·.1)) := by
    rw [← ed, getL_where, Option.isSome_map]
    cases e : getW T.w id with
    | none => rw [decide_eq_false (getW_none.1 e)]; rfl
    | some k => rw [decide_eq_true (List.mem_map.2 ⟨_, getW_mem e, rfl⟩)]; rfl
  rw [hsome]
  refine ⟨_, rfl, _, rfl, _, c0, _, c3, sem_maplen whTy h.tr.map ⟨H.le.refl u, spec.flat_May ht ?_⟩⟩
  rw [wh_len, ← hlen]
  refine ⟨fun hne => hbad hne, fun he => ?_⟩
  have hok := hok he
  obtain ⟨d1, d2, hvc, d4⟩ : 1 ≤ id ∧ id ≤ 1000000000 ∧ vcheck q T.dim = 0 ∧ (decide (id ∈ (ixRows T).map (·.1)) = false → ((ixRows T).length : Int) < 512) := by
    unfold mayErr at he
    split at he
    · cases he
    · rename_i h1
      split at he
      · rename_i h2; exact absurd he h2
      · rename_i h2
        split at he
        · cases he
        · rename_i h3
          refine ⟨by omega, by omega, by simpa using h2, fun e => ?_⟩
          by_cases h4 : ((ixRows T).length : Int) < 512
          · exact h4
          · exact absurd ⟨e, by omega⟩ h3
  obtain ⟨e1, e2, e3, e4⟩ := vcheck_ok hvc
  -- behind the deletion
  have lay : ∀ (u1 : H) (fp1 : Nat → Option Tg) (T1 : Tr), In u0 u1 fp1 b T1 → TurnG u fp u1 fp1 → TOk T1 → id ∉ T1.w.map (·.1) → T1.w.length < 512 → ixRows T1 = (ixRows T).filter (fun x => x.1 != id) → T1.dim = T.dim → T1.cs = T.cs →
      C.slices_Clone___int_int_ t u1 fun s16 u17 => H.le u1 u17 ∧ C.ivf_Tree__lay (some ⟨b, 0, none⟩) id s16 u17 fun u18 => K (!decide (decide (id ∈ (ixRows T).map (·.1)) = true)) 0 u18 := by
    intro u1 fp1 T1 h1 ht1 hT1 hn1 hl1 hr1 hd1 hc1
    have hi1 := hkeep u1 fp1 h1.le ht1
    refine spec.slices_Clone___int_int_ hi1 (by have := hi1.len; omega) fun s16 u17 ho16 _ => ⟨ho16.le, ?_⟩
    have h17 := h1.mono keep ho16.le
    obtain ⟨fp2, h2, hv2, hk2⟩ := h17.tag keep (s16.tags .vec) fun c hc => by
      have hc' := Sl.tags_ne hc
      have hf := ho16.fresh c hc'
      exact ⟨h1.fresh hf, h1.le.none hf, own_known ho16 hc'⟩
    have t2 : TurnG u fp u17 fp2 := by
      refine (ht1.trans (TurnG.mono ho16.le)).tag fun c => ?_
      by_cases e : s16.blk = some c
      · right
        have hf := ho16.fresh c e
        cases e5 : u c with
        | none => exact .inr rfl
        | some o =>
          refine .inl fun e6 => ?_
          rw [ht1.keep c o e5 e6] at hf; cases hf
      · exact .inl (hk2 c (Sl.tags_not e))
    refine spec.lay h2 hT1 hn1 ⟨d1, d2⟩ ho16.ints (fun g hg => hv2 g _ (Sl.tags_at hg)) ⟨by rw [hd1]; exact e3, e4⟩ hl1 fun u18 fp3 T3 hr => ?_
    have hb : (!decide (decide (id ∈ (ixRows T).map (·.1)) = true)) = decide (id ∉ (ixRows T).map (·.1)) := by
      by_cases hin : id ∈ (ixRows T).map (·.1) <;> simp [hin]
    rw [hb]
    exact hok u18 fp3 T3 ⟨hr.is, t2.trans hr.turn, hr.ok, by rw [← hr1]; exact hr.rows, hr.dim.trans hd1, hr.cs.trans hc1⟩
  refine spec.Delete h hT (fun hno u1 hu1 => ?_) fun hin u1 fp1 T1 hr => ?_
  · refine lay u1 fp T (h.mono keep hu1) (TurnG.mono hu1) hT hno ?_ ?_ rfl rfl
    · have := d4 (decide_eq_false fun hm => hno (hmem.2 hm))
      omega
    · refine (List.filter_eq_self.2 fun x hx => ?_).symm
      have : x.1 ≠ id := fun e => hno (hmem.2 (List.mem_map.2 ⟨x, hx, e⟩))
      simpa using this
  · refine lay u1 fp1 T1 hr.is hr.turn hr.ok ?_ ?_ hr.rows hr.dim hr.cs
    · rw [hr.w]
      intro hm
      obtain ⟨p, hp, e⟩ := List.mem_map.1 hm
      have := (List.mem_filter.1 hp).2
      simp [e] at this
    · rw [hr.w]
      have hs := hT.small
      obtain ⟨p, hp, e⟩ := List.mem_map.1 hin
      have : (T.w.filter fun p => p.1 != id).length < T.w.length := List.length_filter_lt_length_iff_exists.2 ⟨p, hp, by simp [e]⟩
      omega

end Go.Proofs.YtljbcihbgeiacaaGreat.Iv
