/- Texts of mine, joined by merge.py: VcPn0, VcReg, VcAll, VcRowF, VcDelR, VcPn1, VcPn2, VcPn3, VcPn4, VcSort2, VcStab, VcDone, VcMeans, VcBall, VcRangeG, VcRangeM, VcPerm, VcVp0. -/
import Derived.Test.YtncgdoeobblnkaaGreatMrb6
import Derived.Shelf.SlSortCmp.Whole1
import Derived.OpenShut
set_option maxRecDepth 100000

/- VcPn0 -/
namespace Go.Proofs.YtncgdoeobblnkaaGreat

/-- A part but for its kids: its block, its region, its rows; with the slices that hold them. -/
structure PH where
  b : Nat
  sh : Int
  sl : Sl
  sg : Sl
  lo : List Int
  hi : List Int
  rad : Int
  sr : Sl
  rows : List Rw
  sk : Sl

/-- The blocks that are a part's own. -/
def PH.blks (h : PH) : List Nat := h.b :: (h.sl.blk.toList ++ h.sg.blk.toList ++ h.sr.blk.toList ++ h.sk.blk.toList)

inductive PN where
  | mk (h : PH) (kids : List PN)

namespace PN
def h : PN → PH | .mk h _ => h
def kids : PN → List PN | .mk _ k => k
def b (n : PN) : Nat := n.h.b

mutual
def pt : PN → Pt
  | .mk h kids => .mk h.sh h.lo h.hi h.rad (h.rows.map Rw.pr) (ptL kids)
def ptL : List PN → List Pt
  | [] => []
  | n :: ns => n.pt :: ptL ns
end

mutual
def heads : PN → List (PH × List Nat)
  | .mk h kids => (h, kids.map PN.b) :: headsL kids
def headsL : List PN → List (PH × List Nat)
  | [] => []
  | n :: ns => n.heads ++ headsL ns
end

theorem ptL_eq : ∀ ns : List PN, ptL ns = ns.map pt
  | [] => rfl
  | n :: ns => by rw [ptL, ptL_eq ns, List.map_cons]
theorem headsL_eq : ∀ ns : List PN, headsL ns = ns.flatMap heads
  | [] => rfl
  | n :: ns => by rw [headsL, headsL_eq ns, List.flatMap_cons]
theorem heads_eq (n : PN) : n.heads = (n.h, n.kids.map b) :: n.kids.flatMap heads := by
  cases n
  rw [heads, headsL_eq]
  rfl
theorem pt_eq (n : PN) : n.pt = .mk n.h.sh n.h.lo n.h.hi n.h.rad (n.h.rows.map Rw.pr) (n.kids.map pt) := by
  cases n
  rw [pt, ptL_eq]
  rfl
theorem heads_pos (n : PN) : 0 < n.heads.length := by rw [heads_eq]; simp

/-- By the kids. -/
theorem ind {P : PN → Prop} (h : ∀ n, (∀ k ∈ n.kids, P k) → P n) : ∀ n, P n := by
  intro n
  exact PN.rec (motive_1 := P) (motive_2 := fun ns => ∀ k ∈ ns, P k) (fun _ _ ih => h _ ih) (fun k hk => (by cases hk)) (fun n ns h1 h2 k hk => by
    rcases List.mem_cons.1 hk with rfl | hk
    · exact h1
    · exact h2 k hk) n

theorem pt_all (n : PN) : n.pt.all = n.heads.flatMap fun x => x.1.rows.map Rw.pr := by
  induction n using ind with
  | h n ih =>
    rw [pt_eq, heads_eq, List.flatMap_cons, Pt.all]
    congr 1
    rw [allL_flat, List.flatMap_map, List.flatMap_assoc]
    rw [List.flatMap_def, List.flatMap_def]
    exact congrArg List.flatten (List.map_congr_left fun k hk => ih k hk)

theorem pt_size (n : PN) : n.pt.size = n.heads.length := by
  induction n using ind with
  | h n ih =>
    rw [pt_eq, heads_eq, List.length_cons, Pt.size, Nat.add_comm]
    congr 1
    obtain ⟨ks, hks⟩ : ∃ ks, ks = n.kids := ⟨_, rfl⟩
    rw [← hks] at ih ⊢
    clear hks
    induction ks with
    | nil => rfl
    | cons k ks ihk =>
      rw [List.map_cons, Pt.sizeL, List.flatMap_cons, List.length_append, ih k (List.mem_cons_self ..), ihk fun j hj => ih j (List.mem_cons_of_mem _ hj)]

/-- Its own blocks. -/
def own (n : PN) : List Nat := n.heads.flatMap fun x => x.1.blks
theorem own_eq (n : PN) : n.own = n.h.blks ++ n.kids.flatMap own := by
  unfold own
  rw [heads_eq, List.flatMap_cons, List.flatMap_assoc]
end PN

def partC (h : PH) : List Value := [.int .i64 h.sh, .slice h.sl.a h.sl.n h.sl.c, .slice h.sg.a h.sg.n h.sg.c, .int .u64 (hiW h.rad), .int .u64 (loW h.rad), .slice none 0 0, .slice h.sr.a h.sr.n h.sr.c, .slice h.sk.a h.sk.n h.sk.c]

/-- One part in memory. -/
structure PhAt (u : H) (x : PH × List Nat) : Prop where
  cell : u x.1.b = some (.cells (partC x.1).toArray 96 (0, 0))
  lo : Own u 3 1 x.1.sl (x.1.lo.flatMap encI)
  hi : Own u 3 1 x.1.sg (x.1.hi.flatMap encI)
  rws : Own u 43 2 x.1.sr (x.1.rows.flatMap encR)
  vec : ∀ r ∈ x.1.rows, Ints u r.s r.v
  kid : Seg u x.1.sk 1 (x.2.map fun n => .pointer (some ⟨n, 0, none⟩))

theorem PhAt.keep {u u' : H} {x : PH × List Nat} (h : PhAt u x) (hu : ∀ c o, c ∈ x.1.blks → u c = some o → u' c = some o) (hv : ∀ r ∈ x.1.rows, Ints u' r.s r.v) : PhAt u' x where
  cell := hu _ _ (List.mem_cons_self ..) h.cell
  lo := h.lo.le fun c o hc ho => hu c o (by simp [PH.blks, hc]) ho
  hi := h.hi.le fun c o hc ho => hu c o (by simp [PH.blks, hc]) ho
  rws := h.rws.le fun c o hc ho => hu c o (by simp [PH.blks, hc]) ho
  vec := hv
  kid := Seg.else h.kid fun c o hc ho => hu c o (by simp [PH.blks, hc]) ho

/-- A tree of parts in memory. -/
structure PnAt (u : H) (n : PN) : Prop where
  one : ∀ x ∈ n.heads, PhAt u x
  nodup : n.own.Nodup

theorem PnAt.keep {u u' : H} {n : PN} (h : PnAt u n) (hu : ∀ c o, c ∈ n.own → u c = some o → u' c = some o) (hv : ∀ x ∈ n.heads, ∀ r ∈ x.1.rows, Ints u' r.s r.v) : PnAt u' n :=
  ⟨fun x hx => (h.one x hx).keep (fun c o hc ho => hu c o (List.mem_flatMap.2 ⟨x, hx, hc⟩) ho) (hv x hx), h.nodup⟩

theorem PnAt.mono {u u' : H} {n : PN} (h : PnAt u n) (hu : u.le u') : PnAt u' n := h.keep (fun c o _ ho => hu c o ho) fun x hx r hr => ((h.one x hx).vec r hr).mono hu

theorem PnAt.part {u : H} {n : PN} (h : ∀ x ∈ n.heads, PhAt u x) : PartAt u n.b n.pt := by
  induction n using PN.ind with
  | h n ih =>
    have h0 := h (n.h, n.kids.map PN.b) (by rw [PN.heads_eq]; exact List.mem_cons_self ..)
    rw [PN.pt_eq]
    refine .mk n.h.sl n.h.sg ⟨none, 0, 0⟩ n.h.sr n.h.sk n.h.rows (n.kids.map PN.b) h0.cell rfl h0.lo.f.ints h0.hi.f.ints ⟨h0.rws.seg, h0.vec⟩ rfl h0.kid (by simp [Pt.kids]) fun i m k hm hk => ?_
    have hk' : (n.kids.map PN.pt)[i]? = some k := hk
    rw [List.getElem?_map] at hm hk'
    cases e : n.kids[i]? with
    | none => rw [e] at hm; cases hm
    | some z =>
      rw [e] at hm hk'
      obtain rfl := Option.some.inj hm
      obtain rfl := Option.some.inj hk'
      have hz := List.mem_of_getElem? e
      exact ih z hz fun x hx => h x (by rw [PN.heads_eq]; exact List.mem_cons_of_mem _ (List.mem_flatMap.2 ⟨z, hz, hx⟩))

/-! ### a place in a tree -/
structure Hol where
  h : PH
  pre : List PN
  post : List PN

def Hol.fill (f : Hol) (n : PN) : PN := .mk f.h (f.pre ++ n :: f.post)
def plug : List Hol → PN → PN
  | [], n => n
  | f :: fs, n => plug fs (f.fill n)

def Hol.heads (f : Hol) (b : Nat) : List (PH × List Nat) := (f.h, f.pre.map PN.b ++ b :: f.post.map PN.b) :: (f.pre ++ f.post).flatMap PN.heads
def ctxH : List Hol → Nat → List (PH × List Nat)
  | [], _ => []
  | f :: fs, b => f.heads b ++ ctxH fs f.h.b

theorem fill_heads (f : Hol) (n : PN) : (f.fill n).heads.Perm (n.heads ++ f.heads n.b) := by
  unfold Hol.fill Hol.heads
  rw [PN.heads_eq]
  show ((f.h, (f.pre ++ n :: f.post).map PN.b) :: (f.pre ++ n :: f.post).flatMap PN.heads).Perm _
  rw [List.map_append, List.map_cons, List.flatMap_append, List.flatMap_append, List.flatMap_cons]
  refine List.Perm.trans (List.Perm.cons _ ?_) List.perm_middle.symm
  refine List.perm_append_comm_assoc _ _ _ |>.trans ?_
  exact .refl _

theorem plug_heads : ∀ (fs : List Hol) (n : PN), (plug fs n).heads.Perm (n.heads ++ ctxH fs n.b)
  | [], n => by rw [ctxH, List.append_nil]; exact .refl _
  | f :: fs, n => by
    show (plug fs (f.fill n)).heads.Perm _
    refine (plug_heads fs (f.fill n)).trans ?_
    rw [ctxH, ← List.append_assoc]
    exact (fill_heads f n).append_right _

theorem plug_b : ∀ (fs : List Hol) {n n' : PN}, n.b = n'.b → (plug fs n).b = (plug fs n').b
  | [], _, _, h => h
  | f :: fs, n, n', _ => plug_b fs (n := f.fill n) (n' := f.fill n') rfl

end Go.Proofs.YtncgdoeobblnkaaGreat

/- VcReg -/
namespace Go.Proofs.YtncgdoeobblnkaaGreat

theorem spec.flat_region {sh hw lw : Int} {ls hs is rs : Sl} {lo hi : List Int} {rows : List Rw} {u : H} {K : Int → Sl → Sl → Int → Int → Sl → H → Prop} (h1 : Ints u ls lo) (h2 : Ints u hs hi) (hr : Rws u rs rows) (b1 : lo.length ≤ 64) (b2 : hi.length ≤ 64) (b3 : rows.length ≤ 1000000)
    (hK : ∀ a b c u', OwnF u u' 3 1 a (lo.flatMap encI) → OwnF u u' 3 1 b (hi.flatMap encI) → OwnF u u' 3 1 c ((sortI (rows.map (·.id))).flatMap encI) → Far a b → Far a c → Far b c → K sh a b hw lw c u') : C.flat_region sh ls hs hw lw is rs u K := by
  have n1 := h1.len
  have n2 := h2.len
  have n3 := hr.len
  apply vc.flat_region
  refine spec.slices_Clone___int_int_ h1 (by omega) fun s0 u1 o1 _ => ⟨o1.le, spec.slices_Clone___int_int_ (h2.mono o1.le) (by omega) fun s2 u3 o2 _ => ?_⟩
  have hr3 := hr.mono (o1.le.trans o2.le)
  refine ⟨fun i x7 s8 s9 x10 x11 s12 w => 0 ≤ i ∧ i ≤ rs.n ∧ x7 = sh ∧ s8 = s0 ∧ s9 = s2 ∧ x10 = hw ∧ x11 = lw ∧ OwnF u3 w 3 1 s12 (((rows.take i.toNat).map (·.id)).flatMap encI), fun i _ _ _ _ _ _ _ => ((rs.n : Int) - i).toNat,
    ⟨by omega, by omega, rfl, rfl, rfl, rfl, rfl, by simpa using OwnF.nil (H.le.refl u3) 3 1⟩, ?_⟩
  rintro i x7 s8 s9 x10 x11 s12 w ⟨i0, i1, e1, e2, e3, e4, e5, ho⟩
  have hn12 := ho.ints.len
  rw [List.length_map, List.length_take] at hn12
  refine ⟨fun hi => ?_, fun hi => ?_⟩
  · obtain ⟨p, hp, r, hrr, c0, c1, _⟩ := (hr3.mono ho.le).at i0 hi
    refine ⟨p, hp, ⟨i0, hi⟩, _, c0, _, c1, sem_push' tInts (build_int _) (by decide) rfl (by simp [Value.oneCell']) ho (by omega) (by omega) fun s' u' ho2 hn2 hel hbl _ => ⟨⟨by omega, by omega⟩, ⟨by omega, by omega, e1, e2, e3, e4, e5, ?_⟩, by dsimp only; omega⟩⟩
    have e : rows.take (i + 1).toNat = rows.take i.toNat ++ [r] := by
      rw [show (i + 1).toNat = i.toNat + 1 by omega, List.take_add_one, hrr]
      rfl
    rw [e, List.map_append, List.flatMap_append]
    exact ho2
  · have hall : rows.take i.toNat = rows := List.take_of_length_le (by omega)
    rw [hall] at ho
    subst e1 e2 e3 e4 e5
    refine spec.slices_Sort___int_int_ ho (by simp; omega) fun u5 ho5 he5 => ?_
    have hf : ∀ g, s12.blk = some g → u3 g = none := ho.fresh
    have f13 : Far s8 s12 := OwnF.far (o1.mono o2.le) (H.le.refl u3) ho
    have f23 : Far s9 s12 := OwnF.far o2 (H.le.refl u3) ho
    have f12 : Far s8 s9 := OwnF.far o1 (H.le.refl u1) o2
    have l5 : u3.le u5 := ho5.le
    exact hK _ _ _ u5 ((o1.mono o2.le).mono l5) ((o2.weaken o1.le).mono l5) (ho5.weaken (o1.le.trans o2.le)) f12 f13 f23

end Go.Proofs.YtncgdoeobblnkaaGreat

/- VcAll -/
namespace Go.Proofs.YtncgdoeobblnkaaGreat

theorem build_rows00 : buildOf Tryz.prog 22 0 #[] = some (43, []) := by kernel_rfl

theorem flatR_one {l : List Rw} : ∀ y ∈ l.flatMap encR, y.oneCell' = true := by
  intro y hy
  obtain ⟨h, _, hy⟩ := List.mem_flatMap.1 hy
  exact encR_one h y hy

theorem spec.slices_Clone__api_Row_ {s : Sl} {l : List Rw} {u : H} {K : Sl → H → Prop} (hs : Seg u s 2 (l.flatMap encR)) (hb : s.n ≤ 1099511627776) (hK : ∀ s' u', OwnF u u' 43 2 s' (l.flatMap encR) → s'.n = s.n → K s' u') : C.slices_Clone__api_Row_ s u K := by
  apply vc.slices_Clone__api_Row_
  refine ⟨fun hn => ?_, fun _ => sem_clone tRows build_rows00 (by decide) hs flatR_one (by omega) hK⟩
  have hl := seg_nil hs hn
  have hl2 : s.n = 0 := by have := Seg.len hs; rw [hl] at this; simp at this; omega
  refine hK _ _ ?_ hl2.symm
  rw [hl]
  exact OwnF.nil (H.le.refl u) _ _

theorem allL_take_succ {ps : List Pt} {i : Nat} {k : Pt} (h : ps[i]? = some k) : Pt.allL (ps.take (i + 1)) = Pt.allL (ps.take i) ++ k.all := by
  rw [List.take_add_one, h, allL_flat, allL_flat]
  simp

theorem allL_take_le (ps : List Pt) (i : Nat) : (Pt.allL (ps.take i)).length ≤ (Pt.allL ps).length := by
  conv => rhs; rw [← List.take_append_drop i ps]
  rw [allL_flat, allL_flat, List.flatMap_append, List.length_append]
  omega

theorem spec.flat_Part__All {v : H} {n : Nat} {p : Pt} (hp : PartAt v n p) : ∀ {u : H} {K : Sl → H → Prop}, v.le u → p.all.length ≤ 1000000 →
    (∀ (s : Sl) (L : List Rw) (u' : H), OwnF u u' 43 2 s (L.flatMap encR) → L.map Rw.pr = p.all → (∀ r ∈ L, Ints v r.s r.v) → K s u') → C.flat_Part__All (some ⟨n, 0, none⟩) u K := by
  induction hp with
  | @mk n p ls hs is rs ks rows ps cell isn lo hi at' pr kids len each ih =>
  intro u K hv hb hK
  have hc := hv _ _ cell
  have hrl : p.rows.length = rows.length := by rw [← pr, List.length_map]
  rw [Pt.all_eq] at hb hK
  rw [List.length_append] at hb
  have hrn := at'.len
  apply vc.flat_Part__All
  refine ⟨_, rfl, rs, H.cell?_of hc 6, spec.slices_Clone__api_Row_ (Seg.mono at'.1 hv) (by omega) fun s2 u3 o2 _ => ⟨_, rfl, ks, H.cell?_of (o2.le _ _ hc) 7, ?_⟩⟩
  have hkm := Nat.le_trans (Seg.cap kids) (Seg.max kids)
  have hkn : ks.n = ps.length := by have := kids.len; simpa using this.symm
  refine ⟨fun s8 x w => 0 ≤ x ∧ x ≤ ks.n ∧ ∃ L : List Rw, OwnF u w 43 2 s8 (L.flatMap encR) ∧ L.map Rw.pr = p.rows ++ Pt.allL (p.kids.take x.toNat) ∧ ∀ r ∈ L, Ints v r.s r.v, fun _ x _ => ((ks.n : Int) - x).toNat,
    ⟨by omega, by omega, rows, o2, by simpa [Pt.allL] using pr, fun r hr => at'.2 r hr⟩, ?_⟩
  rintro s8 x w ⟨x0, x1, L, ho, hL, hI⟩
  refine ⟨fun hx => ?_, fun hx => ?_⟩
  · have hxl : x.toNat < ps.length := by omega
    obtain ⟨k, hk⟩ : ∃ k, p.kids[x.toNat]? = some k := ⟨_, List.getElem?_eq_getElem (by omega)⟩
    have hm : ps[x.toNat]? = some ps[x.toNat] := List.getElem?_eq_getElem hxl
    obtain ⟨a, ha, hcell⟩ := Seg.elem (enc := fun n : Nat => [Value.pointer (some ⟨n, 0, none⟩)]) (k := 1) (fun _ => rfl) (by decide) (xs := ps) (by
      have e : ps.flatMap (fun n : Nat => [Value.pointer (some ⟨n, 0, none⟩)]) = ps.map fun n => Value.pointer (some ⟨n, 0, none⟩) := by
        generalize ps = z
        induction z with
        | nil => rfl
        | cons y z ih => rw [List.flatMap_cons, List.map_cons, ih]; rfl
      rw [e]
      exact kids.mono (hv.trans ho.le)) hm
    have hall := allL_take_succ hk
    have hle := allL_take_le p.kids (x.toNat + 1)
    rw [hall, List.length_append] at hle
    have hLl := congrArg List.length hL
    rw [List.length_map, List.length_append] at hLl
    have hn8 : s8.n = L.length := flat_n encR_len (by decide) ho.own.seg
    refine ⟨a, ha, ⟨x0, hx⟩, _, hcell 0 _ rfl, ih _ _ _ hm hk (hv.trans ho.le) (by omega) fun s13 L2 u14 ho2 hL2 hI2 => ?_⟩
    have hl2 := congrArg List.length hL2
    rw [List.length_map] at hl2
    have hn13 := flat_n encR_len (by decide) ho2.own.seg
    refine sem_appendF tRows (by decide) (ho.mono ho2.le) ho2.own.seg flatR_one (by omega) (by omega) fun s15 u16 ho3 _ => ⟨⟨by omega, by omega⟩, ⟨by omega, by omega, L ++ L2, by rw [List.flatMap_append]; exact ho3, ?_, fun r hr => ?_⟩, by dsimp only; omega⟩
    · rw [List.map_append, hL, hL2, show (x + 1).toNat = x.toNat + 1 by omega, hall, List.append_assoc]
    · rcases List.mem_append.1 hr with h | h
      · exact hI r h
      · exact hI2 r h
  · rw [List.take_of_length_le (by omega)] at hL
    exact hK _ L w ho hL hI

end Go.Proofs.YtncgdoeobblnkaaGreat

/- VcRowF -/
namespace Go.Proofs.YtncgdoeobblnkaaGreat

/-- What a predicate's function value is asked of rows: it looks at no more than what was known at first. -/
def RowPred (ub : H) (fv : Value) (p : Rw → Bool) : Prop := ∀ (r : Rw) (v : H) (K : Bool → H → Prop), ub.le v → K (p r) v → ClY Tryz.prog fv #[.agg #[.int .i64 r.id, .slice r.s.a r.s.n r.s.c]] [.one .bool] v K

theorem spec.slices_IndexFunc__api_Row_ {ub u : H} {s : Sl} {l : List Rw} {fv : Value} {p : Rw → Bool} {K : Int → H → Prop} (hs : Seg u s 2 (l.flatMap encR)) (hp : RowPred ub fv p) (hub : ub.le u)
    (hK : ∀ (i : Nat) r, l[i]? = some r → (∀ (k : Nat) r', k < i → l[k]? = some r' → p r' = false) → p r = true → K i u) (hN : (∀ r ∈ l, p r = false) → K (-1) u) : C.slices_IndexFunc__api_Row_ s fv u K := by
  have hn : s.n = l.length := flat_n encR_len (by decide) hs
  have hm : s.n ≤ 9223372036854775807 := Nat.le_trans (Seg.cap hs) (Seg.max hs)
  apply vc.slices_IndexFunc__api_Row_
  refine ⟨fun _ i v => v = u ∧ 0 ≤ i ∧ i ≤ l.length ∧ ∀ (k : Nat) r', k < i.toNat → l[k]? = some r' → p r' = false, fun _ i _ => l.length - i.toNat, ⟨rfl, by omega, by omega, fun k r' hk => by simp at hk⟩, ?_⟩
  rintro _ i v ⟨rfl, i0, i1, hk⟩
  refine ⟨fun hil => ?_, fun hge => hN fun r hr => ?_⟩
  · have hl : i.toNat < l.length := by omega
    have hx : l[i.toNat]? = some l[i.toNat] := List.getElem?_eq_getElem hl
    obtain ⟨q, hq, hc⟩ := Seg.elem encR_len (by decide) hs hx
    have c0 := hc 0 _ rfl
    rw [Addr.add_zero'] at c0
    refine ⟨q, hq, ⟨i0, hil⟩, _, c0, _, hc 1 _ rfl, hp _ _ _ hub ⟨fun hb => ?_, fun hb => ⟨⟨by omega, by omega⟩, ⟨rfl, by omega, by omega, fun k r' hk' hr' => ?_⟩, by dsimp only; omega⟩⟩⟩
    · have := hK i.toNat _ hx hk hb
      rw [show ((i.toNat : Nat) : Int) = i by omega] at this
      exact this
    · by_cases e : k = i.toNat
      · subst e
        rw [hx] at hr'; cases hr'
        exact hb
      · exact hk k r' (by omega) hr'
  · obtain ⟨k, hk', rfl⟩ := List.getElem_of_mem hr
    exact hk k _ (by omega) (List.getElem?_eq_getElem hk')

end Go.Proofs.YtncgdoeobblnkaaGreat

/- VcDelR -/
namespace Go.Proofs.YtncgdoeobblnkaaGreat

def noRow : Rw := ⟨0, ⟨none, 0, 0⟩, []⟩

theorem wrote_step {u : H} {w w' : World} {b : Nat} {o o' : Obj} (hw : Sub u w) (hb : u b = some o) (k : Wrote b o' w w') : Step u [] w (u.ins b o') [] w' := by
  refine ⟨fun x y h => ?_, k.os, k.tape, k.output, k.drawn, Nat.le_of_eq k.size.symm, fun x _ hx _ => k.rest x (fun e => by rw [e, hb] at hx; cases hx), fun x _ hx => ?_, [], by simp, by simp⟩
  · unfold H.ins at h
    split at h
    · rename_i e; rw [e]; cases h; exact k.at_
    · rename_i e; rw [k.rest x e]; exact hw _ _ h
  · rw [H.ins_other _ _ (fun e => by rw [e, hb] at hx; cases hx)]; exact hx

theorem sem_clearR {u : H} {g i n c : Nat} {cur : Array Value} {T : TypeId} (hg : u g = some (.cells cur T (0, 0))) (hn : i + n * 2 ≤ cur.size) {ty : TypeId} {K : H → Prop} (hK : K (u.ins g (.cells (wr cur i ((List.replicate n noRow).flatMap encR)) T (0, 0)))) :
    SemT Tryz.prog (Builtin.clear_ #[22] ty #[.slice (some ⟨g, i, none⟩) n c]) [] u K := by
  intro w hw
  obtain ⟨ht, _⟩ := elemT_spec tRows
  have hlen : ((List.replicate n noRow).flatMap encR).length = n * 2 := by rw [flat_len encR_len, List.length_replicate]
  rcases Nat.eq_zero_or_pos n with rfl | hpos
  · refine ⟨.tuple #[], w, u, by simp [Builtin.clear_, run_underlying ht], ⟨[], .nil, rfl, ?_⟩, Step.refl hw⟩
    have e : u.ins g (.cells (wr cur i ((List.replicate 0 noRow).flatMap encR)) T (0, 0)) = u := H.ins_self (by rw [hg]; rfl)
    rw [e] at hK
    exact hK
  · obtain ⟨w', hr, hwr⟩ := storeCells_run (P := Tryz.prog) (b := g) (off := i) (T := T) ((List.replicate n noRow).flatMap encR) 0 cur w (hw _ _ hg) (by rw [hlen]; omega) (fun v hv => by
      obtain ⟨r, hr, hv⟩ := List.mem_flatMap.1 hv
      rw [List.eq_of_mem_replicate hr] at hv
      simp [noRow, encR] at hv
      rcases hv with rfl | rfl <;> rfl)
    have hv : ∀ w, (zeroValue 43).run Tryz.prog w = .ok (.agg #[.int .i64 0, .slice none 0 0]) w := fun _ => by kernel_rfl
    have hzc : (Builtin.zeroCells (Value.agg #[.int .i64 0, .slice none 0 0]).cells n).toList = (List.replicate n noRow).flatMap encR := by
      have := made_flat (enc := encR) encR_len (by decide) noRow n
      rw [← this]
      rfl
    obtain ⟨m, rfl⟩ : ∃ m, n = m + 1 := ⟨n - 1, by omega⟩
    refine ⟨.tuple #[], w', _, by simp [Builtin.clear_, run_underlying ht, hv, hzc, hr], ⟨[], .nil, rfl, hK⟩, wrote_step hw hg hwr⟩

theorem OwnF.clearR {u0 u : H} {s : Sl} {l : List Rw} (h : OwnF u0 u 43 2 s (l.flatMap encR)) {i : Nat} (hi : i ≤ s.n) {ty : TypeId} {K : H → Prop}
    (hK : ∀ (u' : H) (l' : List Rw), OwnF u0 u' 43 2 s (l'.flatMap encR) → l'.take i = l.take i → l'.length = l.length → Else u u' s → K u') : SemT Tryz.prog (Builtin.clear_ #[22] ty #[.slice (s.part i s.n s.c 2).a (s.part i s.n s.c 2).n (s.part i s.n s.c 2).c]) [] u K := by
  have hsn : s.n = l.length := flat_n encR_len (by decide) h.own.seg
  obtain ⟨ht0, _⟩ := elemT_spec tRows
  rcases h.own.is with h0 | ⟨g, cur, ha, hg, hn, hc, hs, ht⟩
  · subst h0
    have hl : l = [] := List.eq_nil_of_length_eq_zero hsn.symm
    subst hl
    have hi0 : i = 0 := by simpa using hi
    subst hi0
    refine SemT.pure [] (fun w hw => ?_) .nil (hK u [] h rfl rfl (Else.refl _ _))
    simp [Sl.part, Builtin.clear_, run_underlying ht0]
    rfl
  · rcases Nat.eq_or_lt_of_le hi with rfl | hlt
    · have e : (s.part s.n s.n s.c 2).n = 0 := by simp [Sl.part]
      refine SemT.pure [] (fun w hw => ?_) .nil (hK u l h rfl rfl (Else.refl _ _))
      rw [e]
      cases (s.part s.n s.n s.c 2).a <;> simp [Builtin.clear_, run_underlying ht0] <;> rfl
    · have hpa : (s.part i s.n s.c 2).a = some ⟨g, i * 2, none⟩ := by
        unfold Sl.part
        simp only
        rw [if_neg (by omega), ha]
        simp [Addr.add_lit]
      rw [hpa]
      have hpn : (s.part i s.n s.c 2).n = s.n - i := rfl
      rw [hpn]
      have hsz : i * 2 + (s.n - i) * 2 ≤ cur.size := by rw [hs]; omega
      refine sem_clearR hg hsz ?_
      have hrl : ((List.replicate (s.n - i) noRow).flatMap encR).length = (s.n - i) * 2 := by rw [flat_len encR_len, List.length_replicate]
      have hwl := wr_toList cur (i * 2) ((List.replicate (s.n - i) noRow).flatMap encR) (by rw [hrl]; omega)
      rw [hrl] at hwl
      have hll : (l.take i ++ List.replicate (s.n - i) noRow).length = l.length := by simp; omega
      refine hK _ (l.take i ++ List.replicate (s.n - i) noRow) ⟨⟨by rw [flat_len encR_len, hll, hsn], .inr ⟨g, _, ha, H.ins_same _ _ _, hn, hc, ?_, ?_⟩⟩, fun b o hb => ?_, h.fresh⟩ ?_ hll ?_
      · rw [← Array.length_toList, hwl]; simp [hrl]; omega
      · rw [hwl, List.flatMap_append]
        have ht' : cur.toList.take (s.n * 2) = l.flatMap encR := ht
        have h1 : cur.toList.take (i * 2) = (l.take i).flatMap encR := by
          rw [← flat_take encR_len, ← ht', List.take_take, Nat.min_eq_left (by omega)]
        have hl1 : ((l.take i).flatMap encR).length = i * 2 := by rw [flat_len encR_len]; simp; omega
        rw [h1, List.take_append_of_le_length (by rw [List.length_append, hl1, hrl]; omega), List.take_of_length_le (by rw [List.length_append, hl1, hrl]; omega)]
      · have : b ≠ g := fun e => by
          have := h.fresh g (by simp [Sl.blk, ha])
          rw [e, this] at hb; cases hb
        rw [H.ins_other _ _ this]; exact h.le b o hb
      · rw [List.take_append_of_le_length (by simp; omega), List.take_take, Nat.min_self]
      · intro b o hb hne
        rw [H.ins_other _ _ (fun e => hne (by simp [Sl.blk, ha, e]))]; exact hb

theorem spec.slices_DeleteFunc__api_Row_ {u0 ub u : H} {s : Sl} {l : List Rw} {fv : Value} {p : Rw → Bool} {K : Sl → H → Prop} (ho : OwnF u0 u 43 2 s (l.flatMap encR)) (hp : RowPred ub fv p) (hub : ub.le u) (hbs : ∀ b, s.blk = some b → ub b = none)
    (hK : ∀ s' u', OwnF u0 u' 43 2 s' ((l.filter fun x => !p x).flatMap encR) → s'.blk = s.blk → Else u u' s → K s' u') : C.slices_DeleteFunc__api_Row_ s fv u K := by
  have hsn : s.n = l.length := flat_n encR_len (by decide) ho.own.seg
  have hmx : s.n ≤ 9223372036854775807 := Nat.le_trans (Seg.cap ho.own.seg) (Seg.max ho.own.seg)
  apply vc.slices_DeleteFunc__api_Row_
  refine spec.slices_IndexFunc__api_Row_ ho.own.seg hp hub (fun i r hir hno hyes => ⟨fun h => by omega, fun _ => ?_⟩) fun hno => ⟨fun _ => ?_, fun h => absurd rfl h⟩
  · have hi : i < l.length := (List.getElem?_eq_some_iff.1 hir).1
    have hbefore : (l.take i).filter (fun x => !p x) = l.take i := by
      rw [List.filter_eq_self]
      intro a ha
      obtain ⟨k, hk, rfl⟩ := List.mem_iff_getElem.1 ha
      simp only [List.length_take] at hk
      rw [List.getElem_take, hno k _ (by omega) (List.getElem?_eq_getElem (by omega))]
      rfl
    refine ⟨⟨by omega, by omega⟩, ?_⟩
    refine ⟨fun a j v => 0 ≤ a ∧ a < j ∧ j ≤ l.length ∧ Else u v s ∧ ∃ m : List Rw, m.length = l.length ∧ OwnF u0 v 43 2 s (m.flatMap encR) ∧ m.take a.toNat = (l.take j.toNat).filter (fun x => !p x) ∧ m.drop j.toNat = l.drop j.toNat,
      fun _ j _ => l.length - j.toNat, ⟨by omega, by omega, by omega, Else.refl _ _, l, rfl, ho, ?_, rfl⟩, ?_⟩
    · rw [show ((i : Int) + 1).toNat = i + 1 by omega, Int.toNat_natCast, List.take_add_one, hir]
      simp only [Option.toList_some, List.filter_append, hbefore, List.filter_cons, hyes]
      simp
    rintro a j v ⟨a0, aj, jl, hel, m, hml, hom, htk, hdr⟩
    have hubv : ub.le v := fun b o hb => hel b o (hub b o hb) fun e => by rw [hbs b e] at hb; cases hb
    refine ⟨fun hjl => ?_, fun hge => ?_⟩
    · have hjlt : j.toNat < l.length := by omega
      have hjx : l[j.toNat]? = some l[j.toNat] := List.getElem?_eq_getElem hjlt
      have hjm : m[j.toNat]? = some l[j.toNat] := by
        have := congrArg (fun z => z[0]?) hdr
        simp only [List.getElem?_drop, Nat.add_zero] at this
        rw [this, hjx]
      obtain ⟨q, hq, hc⟩ := Seg.elem encR_len (by decide) hom.own.seg hjm
      have c0 := hc 0 _ rfl
      rw [Addr.add_zero'] at c0
      obtain ⟨x, hx⟩ : ∃ x, x = l[j.toNat] := ⟨_, rfl⟩
      rw [← hx] at hjx hjm c0 hc
      have htk2 : (l.take (j.toNat + 1)).filter (fun x => !p x) = m.take a.toNat ++ (if p x = true then [] else [x]) := by
        rw [List.take_add_one, hjx, htk]
        simp only [Option.toList_some, List.filter_append, List.filter_cons, List.filter_nil]
        cases p x <;> simp
      have hdr2 : ∀ m' : List Rw, (∀ k, a.toNat < k → m'[k]? = m[k]?) → m'.drop (j + 1).toNat = l.drop (j + 1).toNat := fun m' hm' => by
        have e : l.drop (j + 1).toNat = m.drop (j + 1).toNat := by
          rw [show (j + 1).toNat = j.toNat + 1 by omega, ← List.drop_drop, ← List.drop_drop, hdr]
        rw [e]
        apply List.ext_getElem?
        intro k
        rw [List.getElem?_drop, List.getElem?_drop, hm' _ (by omega)]
      refine ⟨q, hq, ⟨by omega, hjl⟩, _, c0, _, hc 1 _ rfl, hp x _ _ hubv ⟨fun hb => ?_, fun hb => ?_⟩⟩
      · have hpf : p x = false := by simpa using hb
        rw [hpf] at htk2
        refine ⟨q, hq, ⟨by omega, by omega⟩, ?_⟩
        refine OwnF.store (enc := encR) encR_len hom (by decide) (i := a.toNat) (by omega) (y := x) (by simp [encR, Value.oneCell']) hq fun u2 ho2 he2 _ => ⟨⟨by omega, by omega⟩, ⟨by omega, by omega⟩, ⟨by omega, by omega, by omega, fun b o hb hne => he2 b o (hel b o hb hne) hne, _, by simpa using hml, ho2, ?_, ?_⟩, by dsimp only; omega⟩
        · rw [show (j + 1).toNat = j.toNat + 1 by omega, htk2, show (a + 1).toNat = a.toNat + 1 by omega, List.take_add_one, List.getElem?_set_self (by omega), List.take_set_of_le (Nat.le_refl _)]
          simp
        · exact hdr2 _ fun k hk => List.getElem?_set_ne (by omega)
      · rw [hb] at htk2
        refine ⟨⟨by omega, by omega⟩, ⟨by omega, by omega, by omega, hel, m, hml, hom, ?_, hdr2 m fun _ _ => rfl⟩, by dsimp only; omega⟩
        rw [show (j + 1).toNat = j.toNat + 1 by omega, htk2]; simp
    · have hjl : j.toNat = l.length := by
        have : ¬ j < (s.n : Int) := hge
        omega
      have hcap := Seg.cap hom.own.seg
      rw [hjl, List.take_length] at htk
      refine sem_slice (P := Tryz.prog) tRows (l := a.toNat) (h := s.n) (m := s.c) (.inr (by rw [Int.toNat_of_nonneg a0])) (.inl ⟨rfl, rfl⟩) (.inl ⟨rfl, rfl⟩) (by omega) hcap (Nat.le_refl _) hcap ?_
      refine hom.clearR (i := a.toNat) (by omega) fun u2 m2 ho2 h1 h2 he2 => ?_
      refine sem_slice (P := Tryz.prog) tRows (l := 0) (h := a.toNat) (m := s.c) (.inl ⟨rfl, rfl⟩) (.inr (by rw [Int.toNat_of_nonneg a0])) (.inl ⟨rfl, rfl⟩) (by omega) (by omega) (Nat.le_refl _) hcap ?_
      obtain ⟨hf, hfb, _⟩ := ho2.front (m := a.toNat) (by omega)
      have e : (m2.flatMap encR).take (a.toNat * 2) = (l.filter fun x => !p x).flatMap encR := by
        rw [flat_take encR_len, h1, htk]
      rw [e] at hf
      exact hK _ _ hf hfb fun b o hb hne => he2 b o (hel b o hb hne) hne
  · have e : l.filter (fun x => !p x) = l := List.filter_eq_self.2 fun a ha => by rw [hno a ha]; rfl
    exact hK s u (by rw [e]; exact ho) rfl (Else.refl _ _)

end Go.Proofs.YtncgdoeobblnkaaGreat

/- VcPn1 -/
namespace Go.Proofs.YtncgdoeobblnkaaGreat

namespace Pt
mutual
def del (id : Int) : Pt → Pt
  | .mk sh lo hi rad rows kids => .mk sh lo hi rad (rows.filter fun x => x.1 != id) (delL id kids)
def delL (id : Int) : List Pt → List Pt
  | [] => []
  | p :: ps => p.del id :: delL id ps
end
theorem delL_eq (id : Int) : ∀ ps : List Pt, delL id ps = ps.map (del id)
  | [] => rfl
  | p :: ps => by rw [delL, delL_eq id ps, List.map_cons]
theorem ind {P : Pt → Prop} (h : ∀ n, (∀ k ∈ n.kids, P k) → P n) : ∀ n, P n := by
  intro n
  exact Pt.rec (motive_1 := P) (motive_2 := fun ns => ∀ k ∈ ns, P k) (fun _ _ _ _ _ _ ih => h _ ih) (fun k hk => (by cases hk)) (fun n ns h1 h2 k hk => by
    rcases List.mem_cons.1 hk with rfl | hk
    · exact h1
    · exact h2 k hk) n
theorem del_eq (id : Int) (p : Pt) : p.del id = .mk p.sh p.lo p.hi p.rad (p.rows.filter fun x => x.1 != id) (p.kids.map (del id)) := by
  cases p
  rw [del, delL_eq]
  rfl
theorem del_all (id : Int) (p : Pt) : (p.del id).all = p.all.filter fun x => x.1 != id := by
  induction p using ind with
  | h p ih =>
    rw [del_eq, all_eq, all_eq, List.filter_append]
    show (p.rows.filter fun x => x.1 != id) ++ allL (p.kids.map (del id)) = _
    congr 1
    rw [allL_flat, allL_flat, List.flatMap_map]
    obtain ⟨ks, hks⟩ : ∃ ks, ks = p.kids := ⟨_, rfl⟩
    rw [← hks] at ih ⊢
    clear hks
    induction ks with
    | nil => rfl
    | cons k ks ihk =>
      rw [List.flatMap_cons, List.flatMap_cons, List.filter_append, ih k (List.mem_cons_self ..), ihk fun j hj => ih j (List.mem_cons_of_mem _ hj)]
theorem del_ok {id d : Int} {p : Pt} (h : PtOk d p) : PtOk d (p.del id) := by
  induction p using ind with
  | h p ih =>
    have h1 := h.reg
    have h2 := h.ins
    have h3 := h.kids
    have hr : (p.del id).rgn [] = p.rgn [] := by rw [del_eq]; rfl
    refine .mk ?_ (fun x hx => ?_) fun k hk => ?_
    · rw [hr]; exact h1
    · rw [hr]
      rw [del_all] at hx
      exact h2 x (List.mem_filter.1 hx).1
    · rw [del_eq] at hk
      obtain ⟨k', hk', rfl⟩ := List.mem_map.1 (show k ∈ p.kids.map (del id) from hk)
      exact ih k' hk' (h3 k' hk')
theorem del_size (id : Int) (p : Pt) : (p.del id).size = p.size := by
  induction p using ind with
  | h p ih =>
    rw [del_eq, size_eq, size_eq]
    show 1 + sizeL (p.kids.map (del id)) = _
    congr 1
    obtain ⟨ks, hks⟩ : ∃ ks, ks = p.kids := ⟨_, rfl⟩
    rw [← hks] at ih ⊢
    clear hks
    induction ks with
    | nil => rfl
    | cons k ks ihk =>
      rw [List.map_cons, sizeL, sizeL, ih k (List.mem_cons_self ..), ihk fun j hj => ih j (List.mem_cons_of_mem _ hj)]
end Pt

/-- All parts are of one shape. -/
inductive PtSh (s : Int) : Pt → Prop where
  | mk {p : Pt} (sh : p.sh = s) (kids : ∀ k ∈ p.kids, PtSh s k) : PtSh s p
theorem PtSh.sh {s : Int} {p : Pt} (h : PtSh s p) : p.sh = s := by cases h; assumption
theorem PtSh.kids {s : Int} {p : Pt} (h : PtSh s p) : ∀ k ∈ p.kids, PtSh s k := by cases h; assumption
theorem PtSh.del {s id : Int} {p : Pt} (h : PtSh s p) : PtSh s (p.del id) := by
  induction p using Pt.ind with
  | h p ih =>
    rw [Pt.del_eq]
    refine .mk h.sh fun k hk => ?_
    obtain ⟨k', hk', rfl⟩ := List.mem_map.1 (show k ∈ p.kids.map (Pt.del id) from hk)
    exact ih k' hk' (h.kids k' hk')

theorem flat_apart {α β : Type} {f : α → List β} : ∀ {ks : List α}, (ks.flatMap f).Nodup → ∀ {i j : Nat} {a b : α} {c : β}, ks[i]? = some a → ks[j]? = some b → i ≠ j → c ∈ f a → c ∉ f b := by
  intro ks
  induction ks with
  | nil => intro _ i j a b c hi; simp at hi
  | cons k ks ih =>
    intro hn i j a b c hi hj hne ha hb
    rw [List.flatMap_cons, List.nodup_append] at hn
    obtain ⟨_, h2, h3⟩ := hn
    cases i with
    | zero =>
      cases j with
      | zero => exact hne rfl
      | succ j =>
        obtain rfl := Option.some.inj (show some k = some a from hi)
        exact h3 c ha c (List.mem_flatMap.2 ⟨b, List.mem_of_getElem? (show ks[j]? = some b from hj), hb⟩) rfl
    | succ i =>
      cases j with
      | zero =>
        obtain rfl := Option.some.inj (show some k = some b from hj)
        exact h3 c hb c (List.mem_flatMap.2 ⟨a, List.mem_of_getElem? (show ks[i]? = some a from hi), ha⟩) rfl
      | succ j => exact ih h2 (show ks[i]? = some a from hi) (show ks[j]? = some b from hj) (by omega) ha hb

/-- A part's rows are others. -/
theorem st_rows {u : H} {h : PH} (hc : u h.b = some (.cells (partC h).toArray 96 (0, 0))) (s : Sl) (rows : List Rw) {f : H → Prop}
    (hf : f (u.ins h.b (.cells (partC { h with sr := s, rows := rows }).toArray 96 (0, 0)))) : H.St u ((Addr.mk h.b 0 none).add 6) [.slice s.a s.n s.c] f := by
  exact ⟨_, _, hc, rfl, by simp [partC, Addr.add_lit], by simp [Value.oneCell'], hf⟩

/-- What is left of a tree of parts where a row was dropped. -/
structure DropR (id : Int) (n : PN) (u' : H) (n' : PN) : Prop where
  one : ∀ x ∈ n'.heads, PhAt u' x
  own : n'.own = n.own
  b : n'.b = n.b
  pt : n'.pt = n.pt.del id
  rows : ∀ x ∈ n'.heads, ∀ r ∈ x.1.rows, ∃ y ∈ n.heads, r ∈ y.1.rows

theorem bDrop : hasBody Tryz.prog 51 = true := by kernel_rfl
theorem bDrop1 : hasBody Tryz.prog 53 = true := by kernel_rfl

theorem drop_pred {ub : H} {n0 : Nat} {id : Int} (c0 : ub.cell? ⟨n0, 0, none⟩ = some (.int .i64 id)) : RowPred ub (.func (.func 53) #[] #[.pointer (some ⟨n0, 0, none⟩)]) fun r => decide (r.id = id) := fun r v K hv hK =>
  .inl ⟨_, _, _, rfl, bodyOf bDrop1, vc.vptree_Tree__Delete_1_1 r.id r.s ⟨n0, 0, none⟩ v K ⟨_, H.le.cell (show ub.le v from hv) c0, hK⟩⟩

theorem spec.drop {ub : H} {n0 n1 : Nat} {id : Int} (c0 : ub.cell? ⟨n0, 0, none⟩ = some (.int .i64 id)) (c1 : ub.cell? ⟨n1, 0, none⟩ = some (.func (.func 51) #[] #[.pointer (some ⟨n0, 0, none⟩), .pointer (some ⟨n1, 0, none⟩)])) :
    ∀ (n : PN) {u : H} {K : H → Prop}, ub.le u → (∀ x ∈ n.heads, PhAt u x) → n.own.Nodup → (∀ c ∈ n.own, ub c = none) → (∀ x ∈ n.heads, ∀ r ∈ x.1.rows, Ints ub r.s r.v) → n.heads.length ≤ 10000000 → (∀ u' n', DropR id n u' n' → (∀ c o, u c = some o → c ∉ n.own → u' c = some o) → (∀ c, u c ≠ none → u' c ≠ none) → K u') →
      C.vptree_Tree__Delete_1 (some ⟨n.b, 0, none⟩) ⟨n0, 0, none⟩ ⟨n1, 0, none⟩ u K := by
  intro n
  induction n using PN.ind with
  | h n ih =>
    intro u K hub hone hnd hout hvec hsz hK
    have hh : (n.h, n.kids.map PN.b) ∈ n.heads := by rw [PN.heads_eq]; exact List.mem_cons_self ..
    have h0 := hone _ hh
    have hb : n.b = n.h.b := rfl
    rw [PN.own_eq] at hnd hout
    have hnd2 := hnd
    rw [List.nodup_append] at hnd2
    obtain ⟨hn1, hn2, hn3⟩ := hnd2
    have hsrb : ∀ g, n.h.sr.blk = some g → g ∈ n.h.blks := fun g hg => by simp [PH.blks, hg]
    have hsrne : n.h.sr.blk ≠ some n.h.b := fun e => by
      unfold PH.blks at hn1
      rw [List.nodup_cons] at hn1
      exact hn1.1 (by simp [e])
    have kidl : n.kids.length ≤ 10000000 := by
      have h1 : n.heads.length = 1 + (n.kids.flatMap PN.heads).length := by rw [PN.heads_eq, List.length_cons]; omega
      have h2 : ∀ ks : List PN, ks.length ≤ (ks.flatMap PN.heads).length := fun ks => by
        induction ks with
        | nil => simp
        | cons k ks ihk => rw [List.flatMap_cons, List.length_append, List.length_cons]; have := k.heads_pos; omega
      have := h2 n.kids
      omega
    apply vc.vptree_Tree__Delete_1
    refine ⟨_, rfl, n.h.sr, H.cell?_of h0.cell 6, ?_⟩
    refine spec.slices_DeleteFunc__api_Row_ h0.rws.f (drop_pred c0) hub (fun g hg => hout g (List.mem_append_left _ (hsrb g hg))) fun s2 u3 ho2 hb2 he2 => ?_
    have hfil : (n.h.rows.filter fun r => !decide (r.id = id)) = n.h.rows.filter fun r => r.id != id := List.filter_congr fun r _ => by by_cases e : r.id = id <;> simp [e]
    rw [hfil] at ho2
    refine ⟨_, rfl, ?_⟩
    have hcell3 : u3 n.h.b = some (.cells (partC n.h).toArray 96 (0, 0)) := he2 _ _ h0.cell hsrne
    refine st_rows hcell3 s2 (n.h.rows.filter fun r => r.id != id) ?_
    obtain ⟨h', hh'⟩ : ∃ h' : PH, h' = { n.h with sr := s2, rows := n.h.rows.filter fun r => r.id != id } := ⟨_, rfl⟩
    rw [← hh']
    have hb' : h'.b = n.h.b := by rw [hh']
    have hbl' : h'.blks = n.h.blks := by rw [hh']; unfold PH.blks; simp [hb2]
    obtain ⟨u5, hu5⟩ : ∃ u5, u5 = u3.ins n.h.b (.cells (partC h').toArray 96 (0, 0)) := ⟨_, rfl⟩
    rw [← hu5]
    have s5 : u5 n.h.b = some (.cells (partC h').toArray 96 (0, 0)) := by rw [hu5]; exact H.ins_same _ _ _
    have e35 : ∀ c o, u3 c = some o → c ≠ n.h.b → u5 c = some o := fun c o hc hne => by rw [hu5, H.ins_other _ _ hne]; exact hc
    have e5 : ∀ c o, u c = some o → c ∉ n.h.blks → u5 c = some o := fun c o hc hne => e35 c o (he2 c o hc fun e => hne (hsrb c e)) fun e => hne (by rw [e]; exact List.mem_cons_self ..)
    have kn5 : ∀ c, u c ≠ none → u5 c ≠ none := fun c hc => by
      by_cases e : c = n.h.b
      · rw [e, s5]; simp
      · obtain ⟨o, ho⟩ := Option.ne_none_iff_exists'.1 hc
        by_cases e2 : n.h.sr.blk = some c
        · obtain ⟨o3, ho3⟩ := Option.ne_none_iff_exists'.1 (own_known ho2 (g := c) (by rw [hb2]; exact e2))
          rw [e35 c o3 ho3 e]; simp
        · rw [e35 c o (he2 c o ho e2) e]; simp
    have hub5 : ub.le u5 := fun c o hc => e5 c o (hub c o hc) fun hm => by rw [hout c (List.mem_append_left _ hm)] at hc; cases hc
    have own5 : ∀ {e k : Nat} {s : Sl} {xs : List Value}, Own u e k s xs → (∀ g, s.blk = some g → g ≠ n.h.b ∧ n.h.sr.blk ≠ some g) → Own u5 e k s xs := fun ho hne => ho.le fun c o hc hu => e35 c o (he2 c o hu fun e => (hne c hc).2 e) (hne c hc).1
    -- the part's own slices lie apart
    have hap : (∀ g, n.h.sl.blk = some g → g ≠ n.h.b ∧ n.h.sr.blk ≠ some g) ∧ (∀ g, n.h.sg.blk = some g → g ≠ n.h.b ∧ n.h.sr.blk ≠ some g) ∧ (∀ g, n.h.sk.blk = some g → g ≠ n.h.b ∧ n.h.sr.blk ≠ some g) := by
      unfold PH.blks at hn1
      rw [List.nodup_cons] at hn1
      obtain ⟨q1, q2⟩ := hn1
      have hq : ∀ g, g ∈ n.h.sl.blk.toList ++ n.h.sg.blk.toList ++ n.h.sr.blk.toList ++ n.h.sk.blk.toList → g ≠ n.h.b := fun g hg e => q1 (by rw [← e]; exact hg)
      rw [List.nodup_append, List.nodup_append, List.nodup_append] at q2
      obtain ⟨⟨⟨_, _, q3⟩, _, q4⟩, _, q5⟩ := q2
      refine ⟨fun g hg => ⟨hq g (by simp [hg]), fun e => q4 g (by simp [hg]) g (by simp [e]) rfl⟩, fun g hg => ⟨hq g (by simp [hg]), fun e => q4 g (by simp [hg]) g (by simp [e]) rfl⟩, fun g hg => ⟨hq g (by simp [hg]), fun e => q5 g (by simp [e]) g (by simp [hg]) rfl⟩⟩
    have hPh : ∀ kb, kb = n.kids.map PN.b → PhAt u5 (h', kb) := fun kb hkb => by
      subst hkb
      subst hh'
      refine ⟨s5, own5 h0.lo hap.1, own5 h0.hi hap.2.1, ho2.own.le fun c o hc hu => e35 c o hu fun e => hsrne (by rw [← hb2, hc, e]), fun r hr => (hvec _ hh r (List.mem_filter.1 hr).1).mono hub5, Seg.else h0.kid fun g o hg ho => e35 g o (he2 g o ho fun e => (hap.2.2 g hg).2 e) (hap.2.2 g hg).1⟩
    have hskh : h'.sk = n.h.sk := by rw [hh']
    refine ⟨_, rfl, h'.sk, by rw [hb]; exact H.cell?_of s5 7, ?_⟩
    -- the kids, one by one
    refine ⟨fun x w => 0 ≤ x ∧ x ≤ n.kids.length ∧ (∀ c o, u5 c = some o → c ∉ n.kids.flatMap PN.own → w c = some o) ∧ (∀ c, u5 c ≠ none → w c ≠ none) ∧ ∃ ds : List PN, ds.length = x.toNat ∧ (∀ (i : Nat) d k, ds[i]? = some d → n.kids[i]? = some k → DropR id k w d) ∧ (∀ (i : Nat) k, x.toNat ≤ i → n.kids[i]? = some k → ∀ y ∈ k.heads, PhAt w y),
      fun x _ => ((n.kids.length : Int) - x).toNat, ⟨by omega, by omega, fun c o hc _ => hc, fun c hc => hc, [], rfl, fun i d k hd => by simp at hd, fun i k _ hk y hy => ?_⟩, ?_⟩
    · obtain ⟨z1, z2⟩ : k.own ⊆ n.kids.flatMap PN.own ∧ True := ⟨fun c hc => List.mem_flatMap.2 ⟨k, List.mem_of_getElem? hk, hc⟩, trivial⟩
      have hyn : y ∈ n.heads := by rw [PN.heads_eq]; exact List.mem_cons_of_mem _ (List.mem_flatMap.2 ⟨k, List.mem_of_getElem? hk, hy⟩)
      refine (hone y hyn).keep (fun c o hc ho => e5 c o ho fun hm => hn3 c hm c (z1 (List.mem_flatMap.2 ⟨y, hy, hc⟩)) rfl) fun r hr => (hvec y hyn r hr).mono hub5
    · rintro x w ⟨x0, x1, hoth, hkw, ds, hdl, hds, hrest⟩
      have hubw : ub.le w := fun c o hc => hoth c o (hub5 c o hc) fun hm => by rw [hout c (List.mem_append_right _ hm)] at hc; cases hc
      have hskn : h'.sk.n = n.kids.length := by rw [hskh]; have := h0.kid.len; simp at this; omega
      have hkid : ∀ {z : Nat} {k : PN}, n.kids[z]? = some k → (∀ y ∈ k.heads, y ∈ n.heads) ∧ (∀ c ∈ k.own, c ∈ n.kids.flatMap PN.own) := fun hk => ⟨fun y hy => by rw [PN.heads_eq]; exact List.mem_cons_of_mem _ (List.mem_flatMap.2 ⟨_, List.mem_of_getElem? hk, hy⟩), fun c hc => List.mem_flatMap.2 ⟨_, List.mem_of_getElem? hk, hc⟩⟩
      refine ⟨fun hx => ?_, fun hx => ?_⟩
      · have hxl : x.toNat < n.kids.length := by omega
        obtain ⟨k, hk⟩ : ∃ k, n.kids[x.toNat]? = some k := ⟨_, List.getElem?_eq_getElem hxl⟩
        have hsk5 : Seg u5 n.h.sk 1 ((n.kids.map PN.b).map fun n => .pointer (some ⟨n, 0, none⟩)) := (hPh _ rfl).kid |> fun h => by rw [hskh] at h; exact h
        have hskw : Seg w n.h.sk 1 ((n.kids.map PN.b).map fun n => .pointer (some ⟨n, 0, none⟩)) := Seg.else hsk5 fun g o hg ho => hoth g o ho fun hm => hn3 g (by simp [PH.blks, hg]) g hm rfl
        have hget : ((n.kids.map PN.b).map fun n => Value.pointer (some ⟨n, 0, none⟩))[x.toNat]? = some (.pointer (some ⟨k.b, 0, none⟩)) := by simp [hk]
        obtain ⟨p, hp, hcell⟩ := hskw.at' |>.resolve_left (fun e => by rw [e] at hget; simp at hget)
        have hcx := hcell _ _ hget
        obtain ⟨k1, k2⟩ := hkid hk
        have hkn : k.own.Nodup := hn2.sublist (List.sublist_flatten_of_mem (List.mem_map_of_mem (f := PN.own) (List.mem_of_getElem? hk)))
        have hsz2 : k.heads.length ≤ 10000000 := by
          have h1 : n.heads.length = 1 + (n.kids.flatMap PN.heads).length := by rw [PN.heads_eq, List.length_cons]; omega
          have h2 : k.heads.length ≤ (n.kids.flatMap PN.heads).length := (List.sublist_flatten_of_mem (List.mem_map_of_mem (f := PN.heads) (List.mem_of_getElem? hk))).length_le
          omega
        refine ⟨p, by rw [hskh]; exact hp, ⟨x0, by omega⟩, _, by rw [Nat.mul_one]; exact hcx, _, hubw.cell c1, .inl ⟨_, _, _, rfl, bodyOf bDrop, ?_⟩⟩
        refine ih k (List.mem_of_getElem? hk) hubw (hrest x.toNat k (Nat.le_refl _) hk) hkn (fun c hc => hout c (List.mem_append_right _ (k2 c hc))) (fun y hy => hvec y (k1 y hy)) hsz2 fun w' d hd hel hk3 => ?_
        have hubw' : ub.le w' := fun c o hc => hel c o (hubw c o hc) fun e => by rw [hout c (List.mem_append_right _ (k2 c e))] at hc; cases hc
        have other : ∀ {i : Nat} {k' : PN}, n.kids[i]? = some k' → i ≠ x.toNat → ∀ c ∈ k'.own, c ∉ k.own := fun hk' hne c hc => flat_apart hn2 hk' hk hne hc
        refine ⟨⟨by omega, by omega⟩, ⟨by omega, by omega, fun c o hc hm => hel c o (hoth c o hc hm) fun e => hm (k2 c e), fun c hc => hk3 c (hkw c hc), ds ++ [d], by rw [List.length_append, hdl]; simp; omega, fun i d' k' hd' hk' => ?_, fun i k' hi hk' y hy => ?_⟩, by dsimp only; omega⟩
        · by_cases e : i < ds.length
          · rw [List.getElem?_append_left e] at hd'
            have hold := hds i d' k' hd' hk'
            have hne := other hk' (by omega)
            refine ⟨fun y hy => (hold.one y hy).keep (fun c o hc ho => hel c o ho (hne c (by rw [← hold.own]; exact List.mem_flatMap.2 ⟨y, hy, hc⟩))) fun r hr => ?_, hold.own, hold.b, hold.pt, hold.rows⟩
            obtain ⟨z, hz, hrz⟩ := hold.rows y hy r hr
            exact (hvec z ((hkid hk').1 z hz) r hrz).mono hubw'
          · have hil : i < (ds ++ [d]).length := (List.getElem?_eq_some_iff.1 hd').1
            rw [List.length_append, List.length_singleton] at hil
            have ei : i = x.toNat := by omega
            rw [List.getElem?_append_right (by omega), show i - ds.length = 0 by omega] at hd'
            obtain rfl := Option.some.inj (show some d = some d' from hd')
            rw [ei, hk] at hk'
            obtain rfl := Option.some.inj hk'
            exact hd
        · refine (hrest i k' (by omega) hk' y hy).keep (fun c o hc ho => hel c o ho (other hk' (by omega) c (List.mem_flatMap.2 ⟨y, hy, hc⟩))) fun r hr => (hvec y ((hkid hk').1 y hy) r hr).mono hubw'
      · have hxl : x.toNat = n.kids.length := by omega
        have hdl' : ds.length = n.kids.length := by omega
        have emap : ∀ {γ : Type} (f g : PN → γ), (∀ (i : Nat) d k, ds[i]? = some d → n.kids[i]? = some k → f d = g k) → ds.map f = n.kids.map g := fun f g hfg => by
          apply List.ext_getElem?
          intro i
          rw [List.getElem?_map, List.getElem?_map]
          by_cases e : i < ds.length
          · have h1 : ds[i]? = some ds[i] := List.getElem?_eq_getElem e
            have h2 : n.kids[i]? = some n.kids[i] := List.getElem?_eq_getElem (by omega)
            rw [h1, h2, Option.map_some, Option.map_some, hfg i _ _ h1 h2]
          · rw [List.getElem?_eq_none (by omega), List.getElem?_eq_none (by omega)]
            rfl
        have eb : ds.map PN.b = n.kids.map PN.b := emap _ _ fun i d k h1 h2 => (hds i d k h1 h2).b
        have eo : ds.flatMap PN.own = n.kids.flatMap PN.own := by
          rw [List.flatMap_def, List.flatMap_def, emap PN.own PN.own fun i d k h1 h2 => (hds i d k h1 h2).own]
        have ep : ds.map PN.pt = n.kids.map fun k => k.pt.del id := emap _ _ fun i d k h1 h2 => (hds i d k h1 h2).pt
        have mem : ∀ d ∈ ds, ∃ k ∈ n.kids, DropR id k w d := fun d hd => by
          obtain ⟨i, hi, rfl⟩ := List.getElem_of_mem hd
          exact ⟨_, List.getElem_mem (show i < n.kids.length by omega), hds i _ _ (List.getElem?_eq_getElem hi) (List.getElem?_eq_getElem (by omega))⟩
        refine hK w (.mk h' ds) ⟨fun y hy => ?_, ?_, hb', ?_, fun y hy r hr => ?_⟩ (fun c o hc hm => ?_) fun c hc => hkw c (kn5 c hc)
        · rw [PN.heads_eq] at hy
          rcases List.mem_cons.1 hy with rfl | hy
          · refine (hPh _ eb).keep (fun c o hc ho => hoth c o ho fun hm => hn3 c (by rw [← hbl']; exact hc) c hm rfl) fun r hr => ?_
            have hr' : r ∈ n.h.rows := by rw [hh'] at hr; exact (List.mem_filter.1 hr).1
            exact (hvec _ hh r hr').mono hubw
          · obtain ⟨d, hd, hy⟩ := List.mem_flatMap.1 hy
            obtain ⟨k, _, hk⟩ := mem d hd
            exact hk.one y hy
        · rw [PN.own_eq, PN.own_eq]
          show h'.blks ++ ds.flatMap PN.own = _
          rw [hbl', eo]
        · rw [PN.pt_eq, PN.pt_eq, Pt.del_eq]
          show Pt.mk h'.sh h'.lo h'.hi h'.rad (h'.rows.map Rw.pr) (ds.map PN.pt) = Pt.mk n.h.sh n.h.lo n.h.hi n.h.rad ((n.h.rows.map Rw.pr).filter fun x => x.1 != id) ((n.kids.map PN.pt).map (Pt.del id))
          rw [ep, List.map_map, List.filter_map, hh']
          rfl
        · rw [PN.heads_eq] at hy
          rcases List.mem_cons.1 hy with rfl | hy
          · have hr' : r ∈ n.h.rows := by
              have : r ∈ h'.rows := hr
              rw [hh'] at this; exact (List.mem_filter.1 this).1
            exact ⟨_, hh, hr'⟩
          · obtain ⟨d, hd, hy⟩ := List.mem_flatMap.1 hy
            obtain ⟨k, hkm, hk⟩ := mem d hd
            obtain ⟨z, hz, hrz⟩ := hk.rows y hy r hr
            exact ⟨z, by rw [PN.heads_eq]; exact List.mem_cons_of_mem _ (List.mem_flatMap.2 ⟨k, hkm, hz⟩), hrz⟩
        · rw [PN.own_eq] at hm
          exact hoth c o (e5 c o hc fun h => hm (List.mem_append_left _ h)) fun h => hm (List.mem_append_right _ h)

end Go.Proofs.YtncgdoeobblnkaaGreat

/- VcPn2 -/
namespace Go.Proofs.YtncgdoeobblnkaaGreat

theorem plug_all (fs : List Hol) (n : PN) : (plug fs n).pt.all.Perm (n.pt.all ++ (ctxH fs n.b).flatMap fun x => x.1.rows.map Rw.pr) := by
  rw [PN.pt_all, PN.pt_all, ← List.flatMap_append]
  exact (plug_heads fs n).flatMap_right _

theorem plug_own (fs : List Hol) (n : PN) : (plug fs n).own.Perm (n.own ++ (ctxH fs n.b).flatMap fun x => x.1.blks) := by
  unfold PN.own
  rw [← List.flatMap_append]
  exact (plug_heads fs n).flatMap_right _

/-- The region of a frame. -/
def Hol.rgn (f : Hol) : Rgn := (Pt.mk f.h.sh f.h.lo f.h.hi f.h.rad [] []).rgn []

theorem fill_rgn (f : Hol) (n : PN) : (f.fill n).pt.rgn [] = f.rgn := by rw [PN.pt_eq]; rfl
theorem fill_kids (f : Hol) (n : PN) : (f.fill n).pt.kids = (f.pre ++ n :: f.post).map PN.pt := by rw [PN.pt_eq]; rfl
theorem fill_all (f : Hol) (n : PN) (x : Prw) : x ∈ (f.fill n).pt.all ↔ x ∈ f.h.rows.map Rw.pr ∨ (∃ k ∈ f.pre ++ f.post, x ∈ k.pt.all) ∨ x ∈ n.pt.all := by
  rw [Pt.all_eq, fill_kids, List.mem_append, allL_flat, List.mem_flatMap]
  have er : (f.fill n).pt.rows = f.h.rows.map Rw.pr := by rw [PN.pt_eq]; rfl
  rw [er]
  constructor
  · rintro (h | ⟨p, hp, hx⟩)
    · exact .inl h
    · obtain ⟨k, hk, rfl⟩ := List.mem_map.1 hp
      rw [List.mem_append, List.mem_cons] at hk
      rcases hk with hk | rfl | hk
      · exact .inr (.inl ⟨k, List.mem_append_left _ hk, hx⟩)
      · exact .inr (.inr hx)
      · exact .inr (.inl ⟨k, List.mem_append_right _ hk, hx⟩)
  · rintro (h | ⟨k, hk, hx⟩ | hx)
    · exact .inl h
    · refine .inr ⟨k.pt, List.mem_map_of_mem ?_, hx⟩
      rw [List.mem_append, List.mem_cons]
      rcases List.mem_append.1 hk with hk | hk
      · exact .inl hk
      · exact .inr (.inr hk)
    · exact .inr ⟨n.pt, List.mem_map_of_mem (by simp), hx⟩

theorem fill_ok {d : Int} {f : Hol} {n n' : PN} (h : PtOk d (f.fill n).pt) (h' : PtOk d n'.pt) (hall : ∀ x ∈ n'.pt.all, x ∈ n.pt.all ∨ Inside f.rgn x.2) : PtOk d (f.fill n').pt := by
  have h1 := h.reg
  have h2 := h.ins
  have h3 := h.kids
  rw [fill_rgn] at h1 h2
  rw [fill_kids] at h3
  refine .mk (by rw [fill_rgn]; exact h1) (fun x hx => ?_) fun k hk => ?_
  · rw [fill_rgn]
    rcases (fill_all f n' x).1 hx with hx | hx | hx
    · exact h2 x ((fill_all f n x).2 (.inl hx))
    · exact h2 x ((fill_all f n x).2 (.inr (.inl hx)))
    · rcases hall x hx with hx | hx
      · exact h2 x ((fill_all f n x).2 (.inr (.inr hx)))
      · exact hx
  · rw [fill_kids] at hk
    obtain ⟨z, hz, rfl⟩ := List.mem_map.1 hk
    rw [List.mem_append, List.mem_cons] at hz
    rcases hz with hz | rfl | hz
    · exact h3 _ (List.mem_map_of_mem (List.mem_append_left _ hz))
    · exact h'
    · exact h3 _ (List.mem_map_of_mem (List.mem_append_right _ (List.mem_cons_of_mem _ hz)))

theorem plug_sub {d : Int} : ∀ (fs : List Hol) {n : PN}, PtOk d (plug fs n).pt → PtOk d n.pt
  | [], _, h => h
  | f :: fs, n, h => by
    have := plug_sub fs (n := f.fill n) h
    have h3 := this.kids
    rw [fill_kids] at h3
    exact h3 _ (List.mem_map_of_mem (by simp))

theorem plug_ok {d : Int} : ∀ (fs : List Hol) {n n' : PN}, PtOk d (plug fs n).pt → PtOk d n'.pt → (∀ x ∈ n'.pt.all, x ∈ n.pt.all ∨ ∀ f ∈ fs, Inside f.rgn x.2) → PtOk d (plug fs n').pt
  | [], _, _, _, h', _ => h'
  | f :: fs, n, n', h, h', hall => by
    refine plug_ok fs (n := f.fill n) (n' := f.fill n') h (fill_ok (plug_sub fs h) h' fun x hx => (hall x hx).imp id fun hx => hx f (List.mem_cons_self ..)) fun x hx => ?_
    rcases (fill_all f n' x).1 hx with hx | hx | hx
    · exact .inl ((fill_all f n x).2 (.inl hx))
    · exact .inl ((fill_all f n x).2 (.inr (.inl hx)))
    · rcases hall x hx with hx | hx
      · exact .inl ((fill_all f n x).2 (.inr (.inr hx)))
      · exact .inr fun g hg => hx g (List.mem_cons_of_mem _ hg)

end Go.Proofs.YtncgdoeobblnkaaGreat

/- VcPn3 -/
namespace Go.Proofs.YtncgdoeobblnkaaGreat

theorem PN.shp {s : Int} (n : PN) (h : ∀ x ∈ n.heads, x.1.sh = s) : PtSh s n.pt := by
  induction n using PN.ind with
  | h n ih =>
    rw [PN.pt_eq]
    refine .mk (h (n.h, n.kids.map PN.b) (by rw [PN.heads_eq]; exact List.mem_cons_self ..)) fun k hk => ?_
    obtain ⟨z, hz, rfl⟩ := List.mem_map.1 (show k ∈ n.kids.map PN.pt from hk)
    exact ih z hz fun x hx => h x (by rw [PN.heads_eq]; exact List.mem_cons_of_mem _ (List.mem_flatMap.2 ⟨z, hz, hx⟩))

theorem PN.shp' {s : Int} (n : PN) (h : PtSh s n.pt) : ∀ x ∈ n.heads, x.1.sh = s := by
  induction n using PN.ind with
  | h n ih =>
    rw [PN.pt_eq] at h
    intro x hx
    rw [PN.heads_eq] at hx
    rcases List.mem_cons.1 hx with rfl | hx
    · exact h.sh
    · obtain ⟨z, hz, hx⟩ := List.mem_flatMap.1 hx
      exact ih z hz (h.kids _ (List.mem_map_of_mem hz)) x hx

/-- On the way down. -/
structure Way (sh : Int) (ub u : H) (d : Int) (v : List Int) (O W : Nat → Prop) (n0 : PN) (fs : List Hol) (n : PN) : Prop where
  base : ub.le u
  one : ∀ x ∈ n.heads ++ ctxH fs n.b, PhAt u x
  nodup : ((n.heads ++ ctxH fs n.b).flatMap fun x => x.1.blks).Nodup
  out : ∀ c ∈ (n.heads ++ ctxH fs n.b).flatMap (fun x => x.1.blks), ub c = none ∧ u c ≠ none ∧ O c
  known : ∀ c, ub c ≠ none → O c
  vec : ∀ x ∈ n.heads ++ ctxH fs n.b, ∀ r ∈ x.1.rows, Ints ub r.s r.v ∧ ∀ g, r.s.blk = some g → W g
  ok : PtOk d (plug fs n).pt
  ins : ∀ f ∈ fs, Inside f.rgn v
  box : ∀ x ∈ n.heads ++ ctxH fs n.b, x.1.sh = sh
  all : (plug fs n).pt.all.Perm n0.pt.all
  len : (plug fs n).heads.length = n0.heads.length
  b : (plug fs n).b = n0.b

theorem Way.start {sh : Int} {ub u : H} {d : Int} {v : List Int} {O W : Nat → Prop} {n : PN} (base : ub.le u) (known : ∀ c, ub c ≠ none → O c) (one : ∀ x ∈ n.heads, PhAt u x) (nodup : n.own.Nodup) (out : ∀ c ∈ n.own, ub c = none ∧ u c ≠ none ∧ O c)
    (vec : ∀ x ∈ n.heads, ∀ r ∈ x.1.rows, Ints ub r.s r.v ∧ ∀ g, r.s.blk = some g → W g) (ok : PtOk d n.pt) (hsh : PtSh sh n.pt) : Way sh ub u d v O W n [] n := by
  have e : n.heads ++ ctxH [] n.b = n.heads := by rw [ctxH, List.append_nil]
  exact ⟨base, by rw [e]; exact one, by rw [e]; exact nodup, by rw [e]; exact out, known, by rw [e]; exact vec, ok, fun f hf => (by cases hf), by rw [e]; exact n.shp' hsh, .refl _, rfl, rfl⟩

/-- Into a kid. -/
theorem Way.kid {sh : Int} {ub u : H} {d : Int} {v : List Int} {O W : Nat → Prop} {n0 : PN} {fs : List Hol} {h : PH} {pre post : List PN} {k : PN} (w : Way sh ub u d v O W n0 fs (.mk h (pre ++ k :: post))) (hi : Inside (Hol.rgn ⟨h, pre, post⟩) v) : Way sh ub u d v O W n0 (⟨h, pre, post⟩ :: fs) k := by
  have hp : ((PN.mk h (pre ++ k :: post)).heads ++ ctxH fs h.b).Perm (k.heads ++ ctxH (⟨h, pre, post⟩ :: fs) k.b) := by
    rw [ctxH, ← List.append_assoc]
    exact (fill_heads ⟨h, pre, post⟩ k).append_right _
  exact ⟨w.base, fun x hx => w.one x (hp.mem_iff.2 hx), (hp.flatMap_right _).nodup_iff.1 w.nodup, fun c hc => w.out c ((hp.flatMap_right _).mem_iff.2 hc), w.known, fun x hx => w.vec x (hp.mem_iff.2 hx), w.ok, fun f hf => by
    rcases List.mem_cons.1 hf with rfl | hf
    · exact hi
    · exact w.ins f hf, fun x hx => w.box x (hp.mem_iff.2 hx), w.all, w.len, w.b⟩

theorem Way.head {sh : Int} {ub u : H} {d : Int} {v : List Int} {O W : Nat → Prop} {n0 : PN} {fs : List Hol} {h : PH} {ks : List PN} (w : Way sh ub u d v O W n0 fs (.mk h ks)) :
    PhAt u (h, ks.map PN.b) ∧ h.blks.Nodup ∧ (∀ c ∈ h.blks, ub c = none ∧ u c ≠ none ∧ O c) ∧ (∀ r ∈ h.rows, Ints ub r.s r.v ∧ ∀ g, r.s.blk = some g → W g) ∧ h.sh = sh := by
  have hm : (h, ks.map PN.b) ∈ (PN.mk h ks).heads ++ ctxH fs (PN.mk h ks).b := by rw [PN.heads]; exact List.mem_append_left _ (List.mem_cons_self ..)
  have hn := w.nodup
  rw [PN.heads, List.cons_append, List.flatMap_cons, List.nodup_append] at hn
  exact ⟨w.one _ hm, hn.1, fun c hc => w.out c (List.mem_flatMap.2 ⟨_, hm, hc⟩), w.vec _ hm, w.box _ hm⟩

/-- What stands at the place is another, and what lies elsewhere is as it was. -/
theorem Way.else {sh : Int} {ub u u' : H} {d : Int} {v : List Int} {O W : Nat → Prop} {n0 : PN} {fs : List Hol} {n : PN} (w : Way sh ub u d v O W n0 fs n) (hel : ∀ c o, u c = some o → O c → c ∉ n.own → u' c = some o) :
    ub.le u' ∧ (∀ x ∈ ctxH fs n.b, PhAt u' x) ∧ (∀ c ∈ (ctxH fs n.b).flatMap (fun x => x.1.blks), (ub c = none ∧ O c) ∧ u' c ≠ none ∧ c ∉ n.own) ∧ ((ctxH fs n.b).flatMap fun x => x.1.blks).Nodup := by
  have hn := w.nodup
  rw [List.flatMap_append, List.nodup_append] at hn
  obtain ⟨_, h2, h3⟩ := hn
  have ho : ∀ c ∈ n.own, ub c = none := fun c hc => (w.out c (by rw [List.flatMap_append]; exact List.mem_append_left _ hc)).1
  have hb : ub.le u' := fun c o hc => hel c o (w.base c o hc) (w.known c (by rw [hc]; simp)) fun hm => by rw [ho c hm] at hc; cases hc
  have hf : ∀ c ∈ (ctxH fs n.b).flatMap (fun x => x.1.blks), c ∉ n.own := fun c hc hm => h3 c hm c hc rfl
  refine ⟨hb, fun x hx => (w.one x (List.mem_append_right _ hx)).keep (fun c o hc ho => hel c o ho (w.out c (by rw [List.flatMap_append]; exact List.mem_append_right _ (List.mem_flatMap.2 ⟨x, hx, hc⟩))).2.2 (hf c (List.mem_flatMap.2 ⟨x, hx, hc⟩))) fun r hr => ((w.vec x (List.mem_append_right _ hx) r hr).1).mono hb, fun c hc => ?_, h2⟩
  obtain ⟨q2, q3, q4⟩ := w.out c (by rw [List.flatMap_append]; exact List.mem_append_right _ hc)
  obtain ⟨o, ho'⟩ := Option.ne_none_iff_exists'.1 q3
  exact ⟨⟨q2, q4⟩, by rw [hel c o ho' q4 (hf c hc)]; simp, hf c hc⟩

/-- The part has another region. -/
theorem Way.turn {sh : Int} {ub u u' : H} {d : Int} {v : List Int} {O W : Nat → Prop} {n0 : PN} {fs : List Hol} {h h' : PH} {ks : List PN} (w : Way sh ub u d v O W n0 fs (.mk h ks)) (hb : h'.blks = h.blks) (hr : h'.rows = h.rows) (hs : h'.sh = h.sh)
    (hph : PhAt u' (h', ks.map PN.b)) (hel : ∀ c o, u c = some o → c ∉ h.blks → u' c = some o) (hkn : ∀ c, u c ≠ none → u' c ≠ none) (hok : PtOk d (PN.mk h' ks).pt) : Way sh ub u' d v O W n0 fs (.mk h' ks) := by
  have hbb : h'.b = h.b := (List.cons.inj hb).1
  have hn := w.nodup
  rw [PN.heads, List.cons_append, List.flatMap_cons] at hn
  have hn2 := (List.nodup_append.1 hn).2.2
  have sub : ∀ x ∈ PN.headsL ks ++ ctxH fs h.b, x ∈ (PN.mk h ks).heads ++ ctxH fs (PN.mk h ks).b := fun x hx => by rw [PN.heads, List.cons_append]; exact List.mem_cons_of_mem _ hx
  have far : ∀ x ∈ PN.headsL ks ++ ctxH fs h.b, ∀ c ∈ x.1.blks, c ∉ h.blks := fun x hx c hc hm => hn2 c hm c (List.mem_flatMap.2 ⟨x, hx, hc⟩) rfl
  have ho : ∀ c ∈ h.blks, ub c = none := fun c hc => (w.head.2.2.1 c hc).1
  have hbase : ub.le u' := fun c o hc => hel c o (w.base c o hc) fun hm => by rw [ho c hm] at hc; cases hc
  have memC : ∀ x, x ∈ (PN.mk h' ks).heads ++ ctxH fs (PN.mk h' ks).b → x = (h', ks.map PN.b) ∨ x ∈ PN.headsL ks ++ ctxH fs h.b := fun x hx => by
    rw [PN.heads, List.cons_append, show (PN.mk h' ks).b = h.b from hbb] at hx
    exact List.mem_cons.1 hx
  have flE : ((PN.mk h' ks).heads ++ ctxH fs (PN.mk h' ks).b).flatMap (fun x => x.1.blks) = ((PN.mk h ks).heads ++ ctxH fs (PN.mk h ks).b).flatMap (fun x => x.1.blks) := by
    rw [PN.heads, PN.heads, List.cons_append, List.cons_append, List.flatMap_cons, List.flatMap_cons, show (PN.mk h' ks).b = h.b from hbb, show (PN.mk h ks).b = h.b from rfl]
    show h'.blks ++ _ = h.blks ++ _
    rw [hb]
  have hall : (PN.mk h' ks).pt.all = (PN.mk h ks).pt.all := by
    rw [PN.pt_all, PN.pt_all, PN.heads, PN.heads, List.flatMap_cons, List.flatMap_cons]
    show h'.rows.map Rw.pr ++ _ = h.rows.map Rw.pr ++ _
    rw [hr]
  refine ⟨hbase, fun x hx => ?_, by rw [flE]; exact w.nodup, fun c hc => ?_, w.known, fun x hx => ?_, plug_ok fs w.ok hok fun x hx => .inl (by rw [← hall]; exact hx), w.ins, fun x hx => ?_, ?_, ?_, ?_⟩
  · rcases memC x hx with rfl | hx
    · exact hph
    · exact (w.one x (sub x hx)).keep (fun c o hc ho' => hel c o ho' (far x hx c hc)) fun r hr' => ((w.vec x (sub x hx) r hr').1).mono hbase
  · rw [flE] at hc
    obtain ⟨q2, q3, q4⟩ := w.out c hc
    exact ⟨q2, hkn c q3, q4⟩
  · rcases memC x hx with rfl | hx
    · intro r hr'
      exact w.head.2.2.2.1 r (by rw [← hr]; exact hr')
    · exact w.vec x (sub x hx)
  · rcases memC x hx with rfl | hx
    · exact hs.trans w.head.2.2.2.2
    · exact w.box x (sub x hx)
  · refine (plug_all fs _).trans (.trans ?_ ((plug_all fs (.mk h ks)).symm.trans w.all))
    rw [hall, show (PN.mk h' ks).b = h.b from hbb, show (PN.mk h ks).b = h.b from rfl]
  · rw [(plug_heads fs _).length_eq, ← w.len, (plug_heads fs (.mk h ks)).length_eq, show (PN.mk h' ks).b = h.b from hbb, show (PN.mk h ks).b = h.b from rfl]
    simp [PN.heads]
  · rw [← w.b]
    exact plug_b fs hbb

/-- The tree when another part stands at the place, with the row in it. -/
structure Down (sh : Int) (ub u' : H) (d : Int) (e : Prw) (O : Nat → Prop) (W : Rw → Prop) (n0 r : PN) (more : Nat) : Prop where
  one : ∀ x ∈ r.heads, PhAt u' x
  nodup : r.own.Nodup
  own : ∀ c ∈ r.own, (ub c = none ∧ O c) ∧ u' c ≠ none
  rws : ∀ x ∈ r.heads, ∀ y ∈ x.1.rows, W y
  all : r.pt.all.Perm (e :: n0.pt.all)
  ok : PtOk d r.pt
  shp : PtSh sh r.pt
  size : r.heads.length ≤ n0.heads.length + more
  b : r.b = n0.b
  le : ub.le u'

theorem Way.down {sh : Int} {ub u u' : H} {d : Int} {v : List Int} {O W : Nat → Prop} {n0 : PN} {fs : List Hol} {n n' : PN} {id : Int} {more : Nat} {W' : Rw → Prop} (w : Way sh ub u d v O W n0 fs n) (hb : n'.b = n.b) (hone : ∀ x ∈ n'.heads, PhAt u' x) (hnd : n'.own.Nodup)
    (hel : ∀ c o, u c = some o → O c → c ∉ n.own → u' c = some o) (hnew : ∀ c ∈ n'.own, (c ∈ n.own ∨ (u c = none ∧ O c)) ∧ u' c ≠ none) (hW : ∀ x ∈ n'.heads, ∀ y ∈ x.1.rows, W' y) (hW2 : ∀ y : Rw, (∀ g, y.s.blk = some g → W g) → W' y)
    (hall : n'.pt.all.Perm ((id, v) :: n.pt.all)) (hok : PtOk d n'.pt) (hsh : PtSh sh n'.pt) (hm : n'.heads.length ≤ n.heads.length + more) : Down sh ub u' d (id, v) O W' n0 (plug fs n') more := by
  obtain ⟨h1, h2, h3, h4⟩ := w.else hel
  have hp := plug_heads fs n'
  have hp0 := plug_heads fs n
  have hpo := plug_own fs n'
  rw [hb] at hp hpo
  have inN : ∀ c ∈ n.own, ub c = none ∧ O c := fun c hc => (fun z => ⟨z.1, z.2.2⟩) (w.out c (by rw [List.flatMap_append]; exact List.mem_append_left _ hc))
  have ctxk : ∀ c ∈ (ctxH fs n.b).flatMap (fun x => x.1.blks), u c ≠ none := fun c hc => (w.out c (by rw [List.flatMap_append]; exact List.mem_append_right _ hc)).2.1
  refine ⟨fun x hx => ?_, ?_, fun c hc => ?_, fun x hx => ?_, ?_, plug_ok fs w.ok hok fun x hx => ?_, PN.shp _ fun x hx => ?_, ?_, (plug_b fs hb).trans w.b, h1⟩
  · rcases List.mem_append.1 (hp.mem_iff.1 hx) with hx | hx
    · exact hone x hx
    · exact h2 x hx
  · rw [hpo.nodup_iff, List.nodup_append]
    refine ⟨hnd, h4, fun c hc c' hc' e => ?_⟩
    subst e
    rcases (hnew c hc).1 with h | h
    · exact (h3 c hc').2.2 h
    · exact ctxk c hc' h.1
  · rcases List.mem_append.1 (hpo.mem_iff.1 hc) with hc | hc
    · obtain ⟨q1, q2⟩ := hnew c hc
      exact ⟨q1.elim (inN c) fun h => ⟨w.base.none h.1, h.2⟩, q2⟩
    · obtain ⟨q1, q3, _⟩ := h3 c hc
      exact ⟨q1, q3⟩
  · rcases List.mem_append.1 (hp.mem_iff.1 hx) with hx | hx
    · exact hW x hx
    · exact fun y hy => hW2 y (w.vec x (List.mem_append_right _ hx) y hy).2
  · have e1 := plug_all fs n'
    have e2 := (plug_all fs n).symm.trans w.all
    rw [hb] at e1
    exact e1.trans ((hall.append_right _).trans (List.Perm.cons _ e2))
  · rcases List.mem_cons.1 (hall.mem_iff.1 hx) with rfl | hx
    · exact .inr w.ins
    · exact .inl hx
  · rcases List.mem_append.1 (hp.mem_iff.1 hx) with hx | hx
    · exact n'.shp' hsh x hx
    · exact w.box x (List.mem_append_right _ hx)
  · rw [← w.len, hp.length_eq, hp0.length_eq, List.length_append, List.length_append]
    omega

end Go.Proofs.YtncgdoeobblnkaaGreat

/- VcPn4 -/
namespace Go.Proofs.YtncgdoeobblnkaaGreat

inductive PtBin : Pt → Prop where
  | mk {p : Pt} (two : p.kids.length = 0 ∨ p.kids.length = 2) (kids : ∀ k ∈ p.kids, PtBin k) : PtBin p
theorem PtBin.two {p : Pt} (h : PtBin p) : p.kids.length = 0 ∨ p.kids.length = 2 := by cases h; assumption
theorem PtBin.kids {p : Pt} (h : PtBin p) : ∀ k ∈ p.kids, PtBin k := by cases h; assumption
theorem PtBin.del {id : Int} {p : Pt} (h : PtBin p) : PtBin (p.del id) := by
  induction p using Pt.ind with
  | h p ih =>
    rw [Pt.del_eq]
    have h1 : (p.kids.map (Pt.del id)).length = 0 ∨ (p.kids.map (Pt.del id)).length = 2 := by rw [List.length_map]; exact h.two
    refine .mk h1 fun k hk => ?_
    obtain ⟨k', hk', rfl⟩ := List.mem_map.1 (show k ∈ p.kids.map (Pt.del id) from hk)
    exact ih k' hk' (h.kids k' hk')

theorem fill_bin {f : Hol} {n n' : PN} (h : PtBin (f.fill n).pt) (h' : PtBin n'.pt) : PtBin (f.fill n').pt := by
  have h1 := h.two
  have h2 := h.kids
  rw [fill_kids] at h1 h2
  refine .mk ?_ fun k hk => ?_
  · rw [fill_kids]
    simp only [List.length_map, List.length_append, List.length_cons] at h1 ⊢
    exact h1
  · rw [fill_kids] at hk
    obtain ⟨z, hz, rfl⟩ := List.mem_map.1 hk
    rw [List.mem_append, List.mem_cons] at hz
    rcases hz with hz | rfl | hz
    · exact h2 _ (List.mem_map_of_mem (List.mem_append_left _ hz))
    · exact h'
    · exact h2 _ (List.mem_map_of_mem (List.mem_append_right _ (List.mem_cons_of_mem _ hz)))

theorem bin_sub : ∀ (fs : List Hol) {n : PN}, PtBin (plug fs n).pt → PtBin n.pt
  | [], _, h => h
  | f :: fs, n, h => by
    have h3 := (bin_sub fs (n := f.fill n) h).kids
    rw [fill_kids] at h3
    exact h3 _ (List.mem_map_of_mem (by simp))

theorem plug_bin : ∀ (fs : List Hol) {n n' : PN}, PtBin (plug fs n).pt → PtBin n'.pt → PtBin (plug fs n').pt
  | [], _, _, _, h' => h'
  | f :: fs, n, n', h, h' => plug_bin fs (n := f.fill n) (n' := f.fill n') h (fill_bin (bin_sub fs (n := f.fill n) h) h')

theorem bin_node {h : PH} {ks : List PN} (h' : PtBin (PN.mk h ks).pt) : (ks.length = 0 ∨ ks.length = 2) ∧ ∀ k ∈ ks, PtBin k.pt := by
  rw [PN.pt_eq] at h'
  have h1 := h'.two
  have h2 := h'.kids
  refine ⟨by have h3 : (ks.map PN.pt).length = 0 ∨ (ks.map PN.pt).length = 2 := h1; rw [List.length_map] at h3; exact h3, fun k hk => h2 k.pt (show k.pt ∈ ks.map PN.pt from List.mem_map_of_mem hk)⟩

theorem bin_of {h : PH} {ks : List PN} (h1 : ks.length = 0 ∨ ks.length = 2) (h2 : ∀ k ∈ ks, PtBin k.pt) : PtBin (PN.mk h ks).pt := by
  rw [PN.pt_eq]
  refine .mk (by show (ks.map PN.pt).length = 0 ∨ (ks.map PN.pt).length = 2; rw [List.length_map]; exact h1) fun k hk => ?_
  obtain ⟨z, hz, rfl⟩ := List.mem_map.1 (show k ∈ ks.map PN.pt from hk)
  exact h2 z hz

end Go.Proofs.YtncgdoeobblnkaaGreat

/- VcSort2 -/
namespace Go.Proofs.YtncgdoeobblnkaaGreat
open Go.Shelf Go.RowKit Go.Sort

theorem flatK_list {α : Type} [Inhabited α] {enc : α → List Value} {k : Nat} (hk0 : 0 < k) (hk : ∀ x, (enc x).length = k) (d : Array α) : (flatK enc k d).toList = d.toList.flatMap enc := by
  apply List.ext_getElem?
  intro i
  rcases Nat.lt_or_ge i (d.size * k) with hi | hi
  · have e : i = i / k * k + i % k := by rw [Nat.mul_comm]; exact (Nat.div_add_mod i k).symm
    have hd : i / k < d.size := Nat.div_lt_of_lt_mul (by rw [Nat.mul_comm]; exact hi)
    have hr : i % k < k := Nat.mod_lt _ hk0
    have hf := flat_get hk d.toList (i / k) (i % k) hr
    rw [← e] at hf
    rw [hf]
    have : (flatK enc k d).toList[i]? = some ((flatK enc k d)[i]!) := by
      rw [Array.getElem?_toList, getElem!_pos _ i (by simpa using hi), Array.getElem?_eq_getElem (by simpa using hi)]
    rw [this, get_flatK _ _ _ _ hi]
    simp [hd]
    have h2 : i % k < (enc d[i / k]).length := by rw [hk]; exact hr
    rw [List.getElem?_eq_getElem h2]
    rfl
  · rw [List.getElem?_eq_none (by simpa using hi), List.getElem?_eq_none (by rw [flat_len hk]; simpa using hi)]

theorem sorted_list {α : Type} [Inhabited α] {cf : α → α → Int} {d : Array α} (hs : SortedIn (ltOf cf) 0 d.size d) : d.toList.Pairwise fun a b => ¬ cf b a < 0 := by
  refine List.pairwise_iff_getElem.2 fun i j hi hj hij => ?_
  have := hs i j (Nat.zero_le _) hij (by simpa using hj)
  simp only [Array.length_toList] at hi hj
  rw [getElem!_pos d j hj, getElem!_pos d i hi] at this
  unfold ltOf at this
  simpa using this

/-- slices.SortFunc, of rows, by whatever comparison that is pure. -/
theorem spec.slices_SortFunc__api_Row_ {α : Type} [Inhabited α] (val : α → Rw) {g : FuncId} {cf : α → α → Int} (hO : SWO (ltOf cf)) (eg : ∀ args w, (callFunc g args).run Tryz.prog w = .ok (.enter g args) w)
    (hcf : ∀ a b (u : H), ClT Tryz.prog g #[.agg (encR (val a)).toArray, .agg (encR (val b)).toArray] [.one (.int .i64)] u fun z' u' => z' = cf a b ∧ u' = u)
    {u0 u : H} {s : Sl} {l : List α} (ho : OwnF u0 u 43 2 s ((l.map val).flatMap encR)) (hsm : l.length < 4611686018427387904) {K : H → Prop}
    (hK : ∀ (u' : H) (l' : List α), l'.Perm l → (l'.Pairwise fun a b => ¬ cf b a < 0) → OwnF u0 u' 43 2 s ((l'.map val).flatMap encR) → Else u u' s → K u') : C.slices_SortFunc__api_Row_ s (.func (.func g) #[] #[]) u K := by
  intro w hw
  have hsn : s.n = l.length := by have := flat_n encR_len (by decide) ho.own.seg; simpa using this
  rcases ho.own.is with h0 | ⟨b, cur, ha, hg, hle, hc, hs, ht⟩
  · subst h0
    have hl : l = [] := by
      have : l.length = 0 := hsn.symm
      exact List.eq_nil_of_length_eq_zero this
    subst hl
    refine (AnyF.slices_SortFunc_none Tryz.sortRows none 0 _ w).mono ?_
    rintro e w' ⟨rfl, rfl⟩
    exact ⟨_, u, rfl, ⟨[], .nil, rfl, hK u [] (List.Perm.refl _) List.Pairwise.nil ho (Else.refl _ _)⟩, Step.refl hw⟩
  have hflat : ∀ m : List α, (m.map val).flatMap encR = m.flatMap fun x => encR (val x) := fun m => by rw [List.flatMap_map]
  have hH : HoldsK (fun x => encR (val x)) 2 w b 0 l.toArray := by
    intro j hj
    simp only [size_flatK, List.size_toArray] at hj
    have hl : ((l.map val).flatMap encR)[j]? = some ((flatK (fun x => encR (val x)) 2 l.toArray)[j]!) := by
      have := flatK_list (k := 2) (enc := fun x => encR (val x)) (by decide) (fun x => encR_len _) l.toArray
      simp only [] at this
      rw [hflat, ← this, Array.getElem?_toList, getElem!_pos _ j (by simpa using hj), Array.getElem?_eq_getElem (by simpa using hj)]
    constructor
    · rcases ho.own.seg.at' with h1 | ⟨p, hp, hcell⟩
      · rw [h1] at hl; simp at hl
      · rw [ha] at hp; cases hp
        have := hw.cell (hcell j _ hl)
        rw [Addr.add_lit, Nat.zero_add] at this
        simpa using this
    · simp [World.frozen?, hw _ _ hg]
  have hcall := AnyQ.slices_SortFunc Tryz.sortRows 2 (fun w => by kernel_rfl) (fun w => by kernel_rfl) (fun x => encR (val x)) (fun x => encR_len _) (fun x => encR_one _) cf hO g #[] b 0 s.c l.toArray w eg
    (fun m os dk _ x y => by
      have := grown_of_pure (hcf x y) (sortWorldK (fun x => encR (val x)) 2 w b 0 m dk os)
      simpa using this) hH (hw.lt hg) (by simpa using hsm)
  simp only [List.size_toArray] at hcall
  change Calls Tryz.prog 91 _ _ _ at hcall
  rw [ha, hsn]
  refine hcall.mono ?_
  rintro e w' ⟨rfl, d', n, os, ⟨hp1, _, hp3⟩, hsrt, rfl⟩
  simp only [List.size_toArray] at hp1
  have hperm : d'.toList.Perm l := by
    have e1 : d'.extract 0 l.length = d' := by rw [← hp1]; simp
    have e2 : l.toArray.extract 0 l.length = l.toArray := by simp
    rw [e1, e2] at hp3
    simpa using hp3
  obtain ⟨ho', he⟩ := ho.resort ha hg (F := flatK (fun x => encR (val x)) 2 d') (by rw [size_flatK, hp1, hsn])
  rw [flatK_list (by decide) (fun x => encR_len _), ← hflat] at ho'
  exact ⟨_, _, rfl, ⟨[], .nil, rfl, hK _ d'.toList hperm (sorted_list (by rw [hp1]; exact hsrt)) ho' he⟩, step_sorted hw hg n _ os⟩

end Go.Proofs.YtncgdoeobblnkaaGreat

/- VcStab -/
namespace Go.Proofs.YtncgdoeobblnkaaGreat

/-- A slice's rows, mixed; all else as it was. -/
def PermS (u0 u : H) (s : Sl) (l : List Rw) (v : H) : Prop := Else u v s ∧ ∃ m : List Rw, m.Perm l ∧ OwnF u0 v 43 2 s (m.flatMap encR)

/-- A comparison that looks alone. -/
def CmpOk (ub : H) (l : List Rw) (fv : Value) : Prop := ∀ (a b : Rw) (v : H) (K : Int → H → Prop), a ∈ l → b ∈ l → ub.le v → (∀ z, K z v) → ClV Tryz.prog fv #[.agg #[.int .i64 a.id, .slice a.s.a a.s.n a.s.c], .agg #[.int .i64 b.id, .slice b.s.a b.s.n b.s.c]] [.one (.int .i64)] v K

theorem PermS.base {u0 u ub v : H} {s : Sl} {l : List Rw} (h : PermS u0 u s l v) (hub : ub.le u) (hbs : ∀ b, s.blk = some b → ub b = none) : ub.le v := fun c o hc => h.1 c o (hub c o hc) fun e => by rw [hbs c e] at hc; cases hc

theorem PermS.len {u0 u v : H} {s : Sl} {l : List Rw} (h : PermS u0 u s l v) : s.n = l.length := by
  obtain ⟨_, m, hp, ho⟩ := h
  have := flat_n encR_len (by decide) ho.own.seg
  rw [hp.length_eq] at this
  exact this

/-- Two of them are read. -/
theorem PermS.at2 {u0 u v : H} {s : Sl} {l : List Rw} (h : PermS u0 u s l v) {x y : Int} (x0 : 0 ≤ x) (x1 : x < s.n) (y0 : 0 ≤ y) (y1 : y < s.n) : ∃ p, s.a = some p ∧ ∃ a b : Rw, a ∈ l ∧ b ∈ l ∧
    v.cell? (p.add (x.toNat * 2)) = some (.int .i64 a.id) ∧ v.cell? ((p.add (x.toNat * 2)).add 1) = some (.slice a.s.a a.s.n a.s.c) ∧ v.cell? (p.add (y.toNat * 2)) = some (.int .i64 b.id) ∧ v.cell? ((p.add (y.toNat * 2)).add 1) = some (.slice b.s.a b.s.n b.s.c) ∧
    ∀ f g : H → Prop, (∀ v', PermS u0 u s l v' → f v') → (∀ v1, H.St v1 (p.add (y.toNat * 2)) [.int .i64 a.id, .slice a.s.a a.s.n a.s.c] f → g v1) → H.St v (p.add (x.toNat * 2)) [.int .i64 b.id, .slice b.s.a b.s.n b.s.c] g := by
  have hsn := h.len
  obtain ⟨he, m, hp, ho⟩ := h
  have hml := hp.length_eq
  have hx : x.toNat < m.length := by omega
  have hy : y.toNat < m.length := by omega
  obtain ⟨p, hpp, hc⟩ := Seg.elem encR_len (by decide) ho.own.seg (List.getElem?_eq_getElem hx)
  obtain ⟨p', hpp', hd⟩ := Seg.elem encR_len (by decide) ho.own.seg (List.getElem?_eq_getElem hy)
  obtain rfl : p' = p := by rw [hpp] at hpp'; exact (Option.some.inj hpp').symm
  have hc0 := hc 0 _ rfl
  have hd0 := hd 0 _ rfl
  rw [Addr.add_zero'] at hc0 hd0
  refine ⟨p', hpp, m[x.toNat], m[y.toNat], hp.mem_iff.1 (List.getElem_mem hx), hp.mem_iff.1 (List.getElem_mem hy), hc0, hc 1 _ rfl, hd0, hd 1 _ rfl, fun f g hf hg => ?_⟩
  refine OwnF.store (enc := encR) encR_len ho (by decide) (i := x.toNat) hx (y := m[y.toNat]) (by simp [encR, Value.oneCell']) hpp fun v1 ho1 he1 _ => hg v1 ?_
  refine OwnF.store (enc := encR) encR_len ho1 (by decide) (i := y.toNat) (by rw [List.length_set]; exact hy) (y := m[x.toNat]) (by simp [encR, Value.oneCell']) hpp fun v2 ho2 he2 _ => hf v2 ⟨fun c o hc hne => he2 c o (he1 c o (he c o hc hne) hne) hne, _, ?_, ho2⟩
  refine List.Perm.trans ?_ hp
  rw [← swapL_eq hx hy]
  exact swapL_perm hx hy

theorem mid_eq {x y : Int} (hx : 0 ≤ x) (hy : 0 ≤ y) (h : x + y ≤ 4000000000) : IntKind.i64.wrap (Int.fdiv (IntKind.u64.wrap (x + y)) (2 ^ 1)) = (x + y) / 2 := by
  have e1 : IntKind.u64.wrap (x + y) = x + y := by
    show (x + y) % 18446744073709551616 = x + y
    omega
  rw [e1, Int.fdiv_eq_ediv_of_nonneg _ (by decide)]
  exact IntWalk.i64_in _ (by omega)

theorem spec.swapRange {u0 u v : H} {s : Sl} {l : List Rw} {a b n : Int} {fv : Value} {K : H → Prop} (h : PermS u0 u s l v) (hsm : l.length ≤ 1000000) (a0 : 0 ≤ a) (b0 : 0 ≤ b) (ha : a + n ≤ s.n) (hb : b + n ≤ s.n) (hK : ∀ v', PermS u0 u s l v' → K v') : C.slices_swapRangeCmpFunc_api_Row_ s a b n fv v K := by
  have hsn := h.len
  apply vc.slices_swapRangeCmpFunc_api_Row_
  refine ⟨fun i w => 0 ≤ i ∧ PermS u0 u s l w, fun i _ => (n - i).toNat, ⟨by omega, h⟩, ?_⟩
  rintro i w ⟨i0, hw⟩
  refine ⟨fun hi => ?_, fun _ => hK w hw⟩
  obtain ⟨p, hp, x, y, _, _, c0, c1, d0, d1, hst⟩ := hw.at2 (x := a + i) (y := b + i) (by omega) (by omega) (by omega) (by omega)
  refine ⟨⟨by omega, by omega⟩, ⟨by omega, by omega⟩, ⟨by omega, by omega⟩, p, hp, ⟨by omega, by omega⟩, ⟨by omega, by omega⟩, p, hp, ⟨by omega, by omega⟩, _, d0, _, d1, _, c0, _, c1, p, hp, ⟨by omega, by omega⟩, ?_⟩
  exact hst _ _ (fun v' hv' => ⟨⟨by omega, by omega⟩, ⟨by omega, hv'⟩, by dsimp only; omega⟩) fun v1 h1 => ⟨p, hp, ⟨by omega, by omega⟩, h1⟩

theorem spec.rotateR {u0 u v : H} {s : Sl} {l : List Rw} {a m b : Int} {fv : Value} {K : H → Prop} (h : PermS u0 u s l v) (hsm : l.length ≤ 1000000) (a0 : 0 ≤ a) (ham : a < m) (hmb : m < b) (hb : b ≤ s.n) (hK : ∀ v', PermS u0 u s l v' → K v') : C.slices_rotateCmpFunc_api_Row_ s a m b fv v K := by
  have hsn := h.len
  apply vc.slices_rotateCmpFunc_api_Row_
  refine ⟨⟨by omega, by omega⟩, ⟨by omega, by omega⟩, fun i j w => 0 < i ∧ i ≤ m - a ∧ 0 < j ∧ j ≤ b - m ∧ PermS u0 u s l w, fun i j _ => (i + j).toNat, ⟨by omega, by omega, by omega, by omega, h⟩, ?_⟩
  rintro i j w ⟨i0, i1, j0, j1, hw⟩
  refine ⟨fun hne => ⟨fun hlt => ⟨⟨by omega, by omega⟩, ?_⟩, fun hlt => ⟨⟨by omega, by omega⟩, ⟨by omega, by omega⟩, ⟨by omega, by omega⟩, ?_⟩⟩, fun he => ⟨⟨by omega, by omega⟩, ?_⟩⟩
  · exact spec.swapRange hw hsm (by omega) (by omega) (by omega) (by omega) fun v' hv' => ⟨⟨by omega, by omega⟩, ⟨by omega, by omega, by omega, by omega, hv'⟩, by dsimp only; omega⟩
  · exact spec.swapRange hw hsm (by omega) (by omega) (by omega) (by omega) fun v' hv' => ⟨⟨by omega, by omega⟩, ⟨by omega, by omega, by omega, by omega, hv'⟩, by dsimp only; omega⟩
  · exact spec.swapRange hw hsm (by omega) (by omega) (by omega) (by omega) hK

theorem spec.insSort {ub u0 u v : H} {s : Sl} {l : List Rw} {a b : Int} {fv : Value} {K : H → Prop} (hub : ub.le u) (hbs : ∀ b, s.blk = some b → ub b = none) (hc : CmpOk ub l fv) (h : PermS u0 u s l v) (hsm : l.length ≤ 1000000) (a0 : 0 ≤ a) (ha1 : a ≤ 2000000) (hb : b ≤ s.n) (hK : ∀ v', PermS u0 u s l v' → K v') : C.slices_insertionSortCmpFunc_api_Row_ s a b fv v K := by
  have hsn := h.len
  apply vc.slices_insertionSortCmpFunc_api_Row_
  refine ⟨⟨by omega, by omega⟩, fun i w => a < i ∧ PermS u0 u s l w, fun i _ => (b - i).toNat, ⟨by omega, h⟩, ?_⟩
  rintro i w ⟨i0, hw⟩
  refine ⟨fun hi => ?_, fun _ => hK w hw⟩
  refine ⟨fun j w => a ≤ j ∧ j ≤ i ∧ PermS u0 u s l w, fun j _ => (j - a).toNat, ⟨by omega, by omega, hw⟩, ?_⟩
  rintro j w ⟨j0, j1, hw⟩
  intro K8 h8
  have next : ∀ {z : H}, PermS u0 u s l z → InR (i + 1) ∧ (a < i + 1 ∧ PermS u0 u s l z) ∧ (b - (i + 1)).toNat < (b - i).toNat := fun hz => ⟨⟨by omega, by omega⟩, ⟨by omega, hz⟩, by omega⟩
  refine ⟨fun hj => ?_, fun _ => next hw⟩
  obtain ⟨p, hp, x, y, hx, hy, c0, c1, d0, d1, hst⟩ := hw.at2 (x := j) (y := j - 1) (by omega) (by omega) (by omega) (by omega)
  refine ⟨p, hp, ⟨by omega, by omega⟩, ⟨by omega, by omega⟩, p, hp, ⟨by omega, by omega⟩, _, c0, _, c1, _, d0, _, d1, ?_⟩
  refine hc x y w _ hx hy (hw.base hub hbs) fun z => ⟨fun _ => h8 _ ?_, fun _ => next hw⟩
  refine ⟨⟨by omega, by omega⟩, ⟨by omega, by omega⟩, p, hp, ⟨by omega, by omega⟩, p, hp, ⟨by omega, by omega⟩, _, d0, _, d1, _, c0, _, c1, p, hp, ⟨by omega, by omega⟩, ?_⟩
  exact hst _ _ (fun v' hv' => ⟨⟨by omega, by omega⟩, ⟨by omega, by omega, hv'⟩, by dsimp only; omega⟩) fun v1 h1 => ⟨p, hp, ⟨by omega, by omega⟩, h1⟩

theorem spec.symMerge {ub u0 u : H} {s : Sl} {l : List Rw} {fv : Value} (hub : ub.le u) (hbs : ∀ b, s.blk = some b → ub b = none) (hc : CmpOk ub l fv) (hsm : l.length ≤ 1000000) : ∀ (N : Nat) {a m b : Int} {v : H} {K : H → Prop}, b - a ≤ N → PermS u0 u s l v → 0 ≤ a → a < m → m < b → b ≤ s.n → (∀ v', PermS u0 u s l v' → K v') → C.slices_symMergeCmpFunc_api_Row_ s a m b fv v K := by
  intro N
  induction N with
  | zero => intro a m b v K hN h a0 ham hmb hb hK; omega
  | succ N ih =>
    intro a m b v K hN h a0 ham hmb hb hK
    have hsn := h.len
    apply vc.slices_symMergeCmpFunc_api_Row_
    refine ⟨⟨by omega, by omega⟩, fun h1 => ?_, fun h1 => ⟨⟨by omega, by omega⟩, fun h2 => ?_, fun h2 => ?_⟩⟩
    · refine ⟨fun i j w => m ≤ i ∧ i ≤ j ∧ j ≤ b ∧ PermS u0 u s l w, fun i j _ => (j - i).toNat, ⟨by omega, by omega, by omega, h⟩, ?_⟩
      rintro i j w ⟨i0, ij, j1, hw⟩
      refine ⟨fun hij => ⟨⟨by omega, by omega⟩, by decide, ?_⟩, fun hij => ?_⟩
      · rw [mid_eq (by omega) (by omega) (by omega)]
        obtain ⟨c, hcc⟩ : ∃ c, c = (i + j) / 2 := ⟨_, rfl⟩
        rw [← hcc]
        obtain ⟨p, hp, x, y, hx, hy, c0, c1, d0, d1, _⟩ := hw.at2 (x := c) (y := a) (by omega) (by omega) (by omega) (by omega)
        refine ⟨p, hp, ⟨by omega, by omega⟩, p, hp, ⟨by omega, by omega⟩, _, c0, _, c1, _, d0, _, d1, ?_⟩
        refine hc x y w _ hx hy (hw.base hub hbs) fun z => ⟨fun _ => ⟨⟨by omega, by omega⟩, ⟨by omega, by omega, by omega, hw⟩, by dsimp only; omega⟩, fun _ => ⟨⟨by omega, by omega, by omega, hw⟩, by dsimp only; omega⟩⟩
      · refine ⟨fun k w => a ≤ k ∧ PermS u0 u s l w, fun k _ => (i - k).toNat, ⟨by omega, hw⟩, ?_⟩
        rintro k w ⟨k0, hw⟩
        refine ⟨⟨by omega, by omega⟩, fun hk => ?_, fun _ => hK w hw⟩
        obtain ⟨p, hp, x, y, hx, hy, c0, c1, d0, d1, hst⟩ := hw.at2 (x := k) (y := k + 1) (by omega) (by omega) (by omega) (by omega)
        refine ⟨⟨by omega, by omega⟩, ⟨by omega, by omega⟩, p, hp, ⟨by omega, by omega⟩, p, hp, ⟨by omega, by omega⟩, _, d0, _, d1, _, c0, _, c1, p, hp, ⟨by omega, by omega⟩, ?_⟩
        exact hst _ _ (fun v' hv' => ⟨⟨by omega, by omega⟩, ⟨by omega, hv'⟩, by dsimp only; omega⟩) fun v1 h1 => ⟨p, hp, ⟨by omega, by omega⟩, h1⟩
    · refine ⟨fun i j w => a ≤ i ∧ i ≤ j ∧ j ≤ m ∧ PermS u0 u s l w, fun i j _ => (j - i).toNat, ⟨by omega, by omega, by omega, h⟩, ?_⟩
      rintro i j w ⟨i0, ij, j1, hw⟩
      refine ⟨fun hij => ⟨⟨by omega, by omega⟩, by decide, ?_⟩, fun hij => ?_⟩
      · rw [mid_eq (by omega) (by omega) (by omega)]
        obtain ⟨c, hcc⟩ : ∃ c, c = (i + j) / 2 := ⟨_, rfl⟩
        rw [← hcc]
        obtain ⟨p, hp, x, y, hx, hy, c0, c1, d0, d1, _⟩ := hw.at2 (x := m) (y := c) (by omega) (by omega) (by omega) (by omega)
        refine ⟨p, hp, ⟨by omega, by omega⟩, p, hp, ⟨by omega, by omega⟩, _, c0, _, c1, _, d0, _, d1, ?_⟩
        refine hc x y w _ hx hy (hw.base hub hbs) fun z => ⟨fun _ => ⟨⟨by omega, by omega⟩, ⟨by omega, by omega, by omega, hw⟩, by dsimp only; omega⟩, fun _ => ⟨⟨by omega, by omega, by omega, hw⟩, by dsimp only; omega⟩⟩
      · refine ⟨fun k w => k ≤ m ∧ PermS u0 u s l w, fun k _ => (k - i).toNat, ⟨by omega, hw⟩, ?_⟩
        rintro k w ⟨k0, hw⟩
        refine ⟨fun hk => ?_, fun _ => hK w hw⟩
        obtain ⟨p, hp, x, y, hx, hy, c0, c1, d0, d1, hst⟩ := hw.at2 (x := k) (y := k - 1) (by omega) (by omega) (by omega) (by omega)
        refine ⟨⟨by omega, by omega⟩, ⟨by omega, by omega⟩, p, hp, ⟨by omega, by omega⟩, p, hp, ⟨by omega, by omega⟩, _, d0, _, d1, _, c0, _, c1, p, hp, ⟨by omega, by omega⟩, ?_⟩
        exact hst _ _ (fun v' hv' => ⟨⟨by omega, by omega⟩, ⟨by omega, hv'⟩, by dsimp only; omega⟩) fun v1 h1 => ⟨p, hp, ⟨by omega, by omega⟩, h1⟩
    · rw [mid_eq (by omega) (by omega) (by omega)]
      obtain ⟨mid, hmid⟩ : ∃ mid, mid = (a + b) / 2 := ⟨_, rfl⟩
      rw [← hmid]
      refine ⟨⟨by omega, by omega⟩, by decide, ⟨by omega, by omega⟩, ?_⟩
      intro K54 h54
      have body : ∀ s0 r0 : Int, a ≤ s0 → s0 ≤ r0 → r0 ≤ m → r0 ≤ mid → mid + m - b ≤ s0 → (m ≤ mid ∨ mid = r0) → K54 s0 r0 v := by
        intro s0 r0 q1 q2 q3 q4 q5 q6
        refine h54 s0 r0 v ⟨⟨by omega, by omega⟩, fun i j w => s0 ≤ i ∧ i ≤ j ∧ j ≤ r0 ∧ PermS u0 u s l w, fun i j _ => (j - i).toNat, ⟨by omega, by omega, by omega, h⟩, ?_⟩
        rintro i j w ⟨i0, ij, j1, hw⟩
        refine ⟨fun hij => ⟨⟨by omega, by omega⟩, by decide, ?_⟩, fun hij => ⟨⟨by omega, by omega⟩, ?_⟩⟩
        · rw [mid_eq (by omega) (by omega) (by omega)]
          obtain ⟨c, hcc⟩ : ∃ c, c = (i + j) / 2 := ⟨_, rfl⟩
          rw [← hcc]
          obtain ⟨p, hp, x, y, hx, hy, c0, c1, d0, d1, _⟩ := hw.at2 (x := mid + m - 1 - c) (y := c) (by omega) (by omega) (by omega) (by omega)
          refine ⟨⟨by omega, by omega⟩, p, hp, ⟨by omega, by omega⟩, p, hp, ⟨by omega, by omega⟩, _, c0, _, c1, _, d0, _, d1, ?_⟩
          refine hc x y w _ hx hy (hw.base hub hbs) fun z => ⟨fun _ => ⟨⟨by omega, by omega⟩, ⟨by omega, by omega, by omega, hw⟩, by dsimp only; omega⟩, fun _ => ⟨⟨by omega, by omega, by omega, hw⟩, by dsimp only; omega⟩⟩
        · intro K71 h71
          have fin : ∀ z, PermS u0 u s l z → K71 z := by
            intro z hz
            refine h71 z ?_
            intro K73 h73
            have fin2 : ∀ z, PermS u0 u s l z → K73 z := by
              intro z hz
              refine h73 z ⟨fun e1 => ⟨fun e2 => ?_, fun _ => hK z hz⟩, fun _ => hK z hz⟩
              exact ih (by omega) hz (by omega) (by omega) (by omega) (by omega) hK
            refine ⟨fun e1 => ⟨fun e2 => ?_, fun _ => fin2 z hz⟩, fun _ => fin2 z hz⟩
            exact ih (by omega) hz (by omega) (by omega) (by omega) (by omega) fin2
          refine ⟨fun e1 => ⟨fun e2 => ?_, fun _ => fin w hw⟩, fun _ => fin w hw⟩
          exact spec.rotateR hw hsm (by omega) (by omega) (by omega) (by omega) fin
      refine ⟨fun hlt => ⟨⟨by omega, by omega⟩, body _ _ (by omega) (by omega) (by omega) (by omega) (by omega) (by omega)⟩, fun hge => body _ _ (by omega) (by omega) (by omega) (by omega) (by omega) (by omega)⟩

theorem spec.slices_SortStableFunc__api_Row_ {ub u0 u : H} {s : Sl} {l : List Rw} {fv : Value} {K : H → Prop} (ho : OwnF u0 u 43 2 s (l.flatMap encR)) (hub : ub.le u) (hbs : ∀ b, s.blk = some b → ub b = none) (hc : CmpOk ub l fv) (hsm : l.length ≤ 1000000)
    (hK : ∀ (u' : H) (m : List Rw), m.Perm l → OwnF u0 u' 43 2 s (m.flatMap encR) → Else u u' s → K u') : C.slices_SortStableFunc__api_Row_ s fv u K := by
  have h : PermS u0 u s l u := ⟨Else.refl _ _, l, .refl _, ho⟩
  have hsn := h.len
  have fin : ∀ v, PermS u0 u s l v → K v := fun v ⟨he, m, hp, ho⟩ => hK v m hp ho he
  apply vc.slices_SortStableFunc__api_Row_
  apply vc.slices_stableCmpFunc_api_Row_
  refine ⟨fun a b w => 0 ≤ a ∧ a ≤ s.n ∧ b = a + 20 ∧ PermS u0 u s l w, fun a _ _ => ((s.n : Int) - a).toNat, ⟨by omega, by omega, by omega, h⟩, ?_⟩
  rintro a b w ⟨a0, a1, hb, hw⟩
  refine ⟨fun hle => ?_, fun hgt => ?_⟩
  · exact spec.insSort hub hbs hc hw hsm (by omega) (by omega) (by omega) fun v' hv' => ⟨⟨by omega, by omega⟩, ⟨by omega, by omega, by omega, hv'⟩, by dsimp only; omega⟩
  · refine spec.insSort hub hbs hc hw hsm (by omega) (by omega) (by omega) fun v' hv' => ?_
    refine ⟨fun _ _ k w => 20 ≤ k ∧ k ≤ 4000000 ∧ PermS u0 u s l w, fun _ _ k _ => (4000000 - k).toNat, ⟨by omega, by omega, hv'⟩, ?_⟩
    rintro _ _ k w ⟨k0, k1, hw⟩
    refine ⟨fun hk => ⟨⟨by omega, by omega⟩, ?_⟩, fun _ => fin w hw⟩
    refine ⟨fun x y w => 0 ≤ x ∧ x ≤ s.n ∧ y = x + 2 * k ∧ PermS u0 u s l w, fun x _ _ => ((s.n : Int) - x).toNat, ⟨by omega, by omega, by omega, hw⟩, ?_⟩
    rintro x y w ⟨x0, x1, hy, hw⟩
    refine ⟨fun hle => ⟨⟨by omega, by omega⟩, ?_⟩, fun hgt => ⟨⟨by omega, by omega⟩, fun hm => ?_, fun _ => ⟨⟨by omega, by omega⟩, ⟨by omega, by omega, hw⟩, by dsimp only; omega⟩⟩⟩
    · exact spec.symMerge hub hbs hc hsm (y - x).toNat (by omega) hw (by omega) (by omega) (by omega) (by omega) fun v' hv' => ⟨⟨by omega, by omega⟩, ⟨by omega, by omega⟩, ⟨by omega, by omega, by omega, hv'⟩, by dsimp only; omega⟩
    · exact spec.symMerge hub hbs hc hsm ((s.n : Int) - x).toNat (by omega) hw (by omega) (by omega) (by omega) (by omega) fun v' hv' => ⟨⟨by omega, by omega⟩, ⟨by omega, by omega, hv'⟩, by dsimp only; omega⟩

end Go.Proofs.YtncgdoeobblnkaaGreat

/- VcDone -/
namespace Go.Proofs.YtncgdoeobblnkaaGreat

theorem spec.topk_Heap__Len {u : H} {n : Nat} {k : Int} {s : Sl} {K : Int → H → Prop} (hn : u n = some (.cells #[.int .i64 k, .slice s.a s.n s.c] 146 (0, 0))) (hK : K s.n u) : C.topk_Heap__Len (some ⟨n, 0, none⟩) u K := by
  apply vc.topk_Heap__Len
  exact ⟨fun e => (by cases e), fun _ => ⟨_, rfl, s, H.cell?_of hn 1, hK⟩⟩

/-- The last of a sorted list is the one that none is behind. -/
theorem srt_last {l : List Hit} (hs : Srt l) {x : Hit} (hx : x ∈ l) (hm : ∀ y ∈ l, hlt x y = false) : l.getD (l.length - 1) default = x := by
  have hl : 0 < l.length := List.length_pos_iff.2 fun e => by rw [e] at hx; cases hx
  obtain ⟨i, hi, rfl⟩ := List.getElem_of_mem hx
  have hl1 : l.length - 1 < l.length := by omega
  rw [List.getD_eq_getElem?_getD, List.getElem?_eq_getElem hl1]
  show l[l.length - 1] = l[i]
  by_cases e : i = l.length - 1
  · subst e; rfl
  · have h1 := List.pairwise_iff_getElem.1 hs i (l.length - 1) hi hl1 (by omega)
    exact hlt_eq (hm _ (List.getElem_mem hl1)) h1

theorem spec.flat_Walk_2 {u0 u : H} {N n4 : Nat} {k hi lo : Int} {S : List Hit} {K : Bool → H → Prop} (h : TopAt u0 N k u S) (k1 : 1 ≤ k) (hd : ∀ g ∈ S, Dok g.2) (hn4 : u.cell? ⟨n4, 0, none⟩ = some (.pointer (some ⟨N, 0, none⟩))) (_h1 : U64 hi) (h2 : U64 lo)
    (hK : ∀ bb : Bool, (bb = true ↔ k ≤ (S.length : Int) ∧ ((topk k.toNat S).getD (k.toNat - 1) default).2 < wv hi lo) → K bb u) : C.flat_Walk_2 hi lo ⟨n4, 0, none⟩ u K := by
  obtain ⟨l, hst, hh, hp⟩ := h
  obtain ⟨s, hn, ho, hne⟩ := hst.ex
  have hsn := ho.hts.len
  have hlen := hp.length_eq
  rw [topk_len] at hlen
  apply vc.flat_Walk_2
  refine ⟨_, hn4, ?_⟩
  apply vc.topk_Heap__Worst
  have full : ∀ {x2 x3 : Int}, U64 x3 → ((s.n : Int) = k → wv x2 x3 = ((topk k.toNat S).getD (k.toNat - 1) default).2) → C.topk_Heap__Full (some ⟨N, 0, none⟩) u (fun (b7 : Bool) (u8 : H) => ((b7 = Bool.true) → C.wide_Cmp hi lo x2 x3 u8 (fun (x9 : Int) (u10 : H) => K (decide ((0 : Int) < x9)) u10)) ∧ ((b7 = Bool.false) → K Bool.false u8)) := by
    intro x2 x3 hx3 hw
    apply vc.topk_Heap__Full
    refine ⟨fun _ => ⟨_, rfl, _, rfl, s, H.cell?_of hn 1, _, H.cell?_of hn 0, fun hb => ?_, fun hb => ?_⟩, fun e => (by cases e)⟩
    · have he := of_decide_eq_true hb
      refine spec.wide_Cmp h2 hx3 ?_
      rw [hw he]
      have hks : k ≤ (S.length : Int) := by omega
      have key : ∀ z : Int, (0 < z ↔ ((topk k.toNat S).getD (k.toNat - 1) default).2 < wv hi lo) → K (decide (0 < z)) u := fun z hz => hK _ (by rw [decide_eq_true_iff, hz]; exact ⟨fun h => ⟨hks, h⟩, fun h => h.2⟩)
      refine key _ ?_
      split
      · omega
      · split <;> omega
    · have he := of_decide_eq_false hb
      exact hK _ ⟨fun e => (by cases e), fun hc => by omega⟩
  refine spec.topk_Heap__Len hn ⟨fun h0 => ⟨_, hn4, full ⟨by omega, by omega⟩ fun e => by omega⟩, fun hne0 => ?_⟩
  obtain ⟨p, hpp, g, hg, c0, c1, c2⟩ := ho.hts.at (x := 0) (by omega) (by omega)
  have hg0 : l.getD 0 default = g := by
    rw [List.getD_eq_getElem?_getD]
    have : l[(0 : Int).toNat]? = some g := hg
    rw [show (0 : Int).toNat = 0 from rfl] at this
    rw [this]; rfl
  have hgl : g ∈ l := List.mem_of_getElem? hg
  have hgt : g ∈ topk k.toNat S := hp.mem_iff.1 hgl
  have hdg : Dok g.2 := hd g ((sortH_perm _).mem_iff.1 (List.mem_of_mem_take hgt))
  have e0 : p.add ((0 : Int).toNat * 3) = p.add 0 := rfl
  rw [e0] at c0 c1 c2
  refine ⟨_, rfl, s, H.cell?_of hn 1, p, hpp, ⟨by omega, by omega⟩, _, c0, _, c1, _, c2, _, hn4, full (loU _) fun e => ?_⟩
  rw [wv_hl]
  have hL : LtOk (fun a b : Hit => hlt b a) := ⟨fun a b h => hlt_asymm h, fun a b c h k => hlt_le_trans k h⟩
  have hmax : ∀ y ∈ topk k.toNat S, hlt g y = false := fun y hy => by
    have hyl := hp.mem_iff.2 hy
    obtain ⟨i, hi, rfl⟩ := List.getElem_of_mem hyl
    have h3 : hlt (l.getD 0 default) (l.getD i default) = false := hh.root hL i hi
    have e : l.getD i default = l[i] := by rw [List.getD_eq_getElem?_getD, List.getElem?_eq_getElem hi]; rfl
    rw [e, hg0] at h3
    exact h3
  have hl := srt_last (topk_srt k.toNat S) hgt hmax
  rw [topk_len] at hl
  rw [show k.toNat - 1 = min k.toNat S.length - 1 by omega, hl]

end Go.Proofs.YtncgdoeobblnkaaGreat

/- VcMeans -/
namespace Go.Proofs.YtncgdoeobblnkaaGreat

def encS (s : Sl) : List Value := [.slice s.a s.n s.c]
theorem encS_len (c : Sl × List Int) : (encS c.1).length = 1 := rfl

/-- Vectors in memory. -/
structure VcsAt (u : H) (s : Sl) (l : List (Sl × List Int)) : Prop where
  seg : Seg u s 1 (l.flatMap fun c => encS c.1)
  ints : ∀ c ∈ l, Ints u c.1 c.2

theorem VcsAt.mono {u u' : H} {s : Sl} {l : List (Sl × List Int)} (h : VcsAt u s l) (k : u.le u') : VcsAt u' s l := ⟨h.seg.mono k, fun c hc => (h.ints c hc).mono k⟩
theorem VcsAt.len {u : H} {s : Sl} {l : List (Sl × List Int)} (h : VcsAt u s l) : s.n = l.length := flat_n encS_len (by decide) h.seg
theorem VcsAt.at {u : H} {s : Sl} {l : List (Sl × List Int)} (h : VcsAt u s l) {x : Int} (h0 : 0 ≤ x) (h1 : x < (s.n : Int)) : ∃ p, s.a = some p ∧ ∃ c, l[x.toNat]? = some c ∧ c ∈ l ∧ u.cell? (p.add (x.toNat * 1)) = some (.slice c.1.a c.1.n c.1.c) ∧ Ints u c.1 c.2 := by
  have hn := h.len
  have hl : x.toNat < l.length := by omega
  have hx : l[x.toNat]? = some l[x.toNat] := List.getElem?_eq_getElem hl
  obtain ⟨p, hp, hc⟩ := Seg.elem encS_len (by decide) h.seg hx
  exact ⟨p, hp, _, hx, List.getElem_mem hl, hc 0 _ rfl, h.ints _ (List.getElem_mem hl)⟩

/-- Centres that may be, of a dimension. -/
structure CsOk (l : List (Sl × List Int)) (d : Int) : Prop where
  dim : 1 ≤ d ∧ d ≤ 64
  many : 0 < l.length ∧ l.length ≤ 64
  each : ∀ c ∈ l, (c.2.length : Int) = d ∧ vok c.2

end Go.Proofs.YtncgdoeobblnkaaGreat

/- VcBall -/
namespace Go.Proofs.YtncgdoeobblnkaaGreat

/-- The farthest of the first so many rows. -/
def radTo (c : List Int) (l : List Rw) : Nat → Int
  | 0 => 0
  | n + 1 => if radTo c l n < sqTo c (l.getD n ⟨0, ⟨none, 0, 0⟩, []⟩).v c.length then sqTo c (l.getD n ⟨0, ⟨none, 0, 0⟩, []⟩).v c.length else radTo c l n

theorem radTo_ge (c : List Int) (l : List Rw) : ∀ n, 0 ≤ radTo c l n ∧ ∀ i r, i < n → l[i]? = some r → sqTo c r.v c.length ≤ radTo c l n := by
  intro n
  induction n with
  | zero => exact ⟨Int.le_refl _, fun i r h => by omega⟩
  | succ n ih =>
    obtain ⟨h0, h1⟩ := ih
    unfold radTo
    have last : ∀ r, l[n]? = some r → l.getD n ⟨0, ⟨none, 0, 0⟩, []⟩ = r := fun r hr => by rw [List.getD_eq_getElem?_getD, hr]; rfl
    split
    · rename_i hlt
      refine ⟨by omega, fun i r hi hr => ?_⟩
      by_cases e : i = n
      · subst e; rw [last r hr]; exact Int.le_refl _
      · have := h1 i r (by omega) hr; omega
    · rename_i hge
      refine ⟨h0, fun i r hi hr => ?_⟩
      by_cases e : i = n
      · subst e; rw [last r hr] at hge; omega
      · exact h1 i r (by omega) hr

theorem radTo_ok {c : List Int} {l : List Rw} (hc : vok c) (hl : Rok l c.length) : ∀ n, n ≤ l.length → Dok (radTo c l n) := by
  intro n
  induction n with
  | zero => intro _; exact ⟨Int.le_refl _, (by decide : (0 : Int) < 340282366920938463463374607431768211456)⟩
  | succ n ih =>
    intro hn
    unfold radTo
    have hg : l.getD n ⟨0, ⟨none, 0, 0⟩, []⟩ ∈ l := by
      rw [List.getD_eq_getElem?_getD, List.getElem?_eq_getElem (by omega)]
      exact List.getElem_mem (by omega)
    obtain ⟨e1, e2⟩ := hl.v _ hg
    split
    · exact sqTo_ok hc e2 (by omega)
    · exact ih (by omega)

theorem spec.vec_Ball {s t : Sl} {c : List Int} {l : List Rw} {u : H} {K : Int → Sl → Sl → Int → Int → Sl → Int → H → Prop} (hs : Ints u s c) (hc : vok c) (ht : Rws u t l) (hl : Rok l c.length)
    (hK : ∀ s' i' u', OwnF u u' 3 1 s' (c.flatMap encI) → K 3 s' ⟨none, 0, 0⟩ (hiW (radTo c l l.length)) (loW (radTo c l l.length)) i' 0 u') : C.vec_Ball s t u K := by
  have hsn := hs.len
  have htn := ht.len
  have htm := ht.max
  have hd := hl.dim
  have h64 := hc.1
  have z : U64 0 := ⟨by omega, by omega⟩
  apply vc.vec_Ball
  refine spec.vec_Check hs ?_
  rw [hsn, vcheck_reg hc rfl hd]
  refine ⟨fun hx => absurd rfl hx, fun _ => spec.vec_ids ht hl fun i' u4 o4 => ⟨fun hx => absurd rfl hx, fun _ => ?_⟩⟩
  refine ⟨fun i x y w => w = u4 ∧ 0 ≤ i ∧ i ≤ t.n ∧ U64 x ∧ U64 y ∧ wv x y = radTo c l i.toNat, fun i _ _ _ => ((t.n : Int) - i).toNat, ⟨rfl, by omega, by omega, z, z, rfl⟩, ?_⟩
  rintro i x y w ⟨rfl, i0, i1, hx, hy, hw⟩
  refine ⟨fun hi => ?_, fun hi => ?_⟩
  · obtain ⟨p, hp, r, hr, c0, c1, hri⟩ := (ht.mono o4.le).at i0 hi
    have hrm := List.mem_of_getElem? hr
    obtain ⟨e1, e2⟩ := hl.v r hrm
    have eg : l.getD i.toNat ⟨0, ⟨none, 0, 0⟩, []⟩ = r := by rw [List.getD_eq_getElem?_getD, hr]; rfl
    have step : radTo c l (i + 1).toNat = if radTo c l i.toNat < sqTo c r.v c.length then sqTo c r.v c.length else radTo c l i.toNat := by
      rw [show (i + 1).toNat = i.toNat + 1 by omega]
      show (if _ then _ else _) = _
      rw [eg]
    refine ⟨p, hp, ⟨i0, hi⟩, _, c0, _, c1, spec.vec_far (hs.mono o4.le) hri hc e2 (by omega) fun x' y' hx' hy' hw' => spec.wide_Cmp hy' hy ?_⟩
    rw [hw, hw']
    by_cases hlt : radTo c l i.toNat < sqTo c r.v c.length
    · refine ⟨fun _ => ⟨⟨by omega, by omega⟩, ⟨rfl, by omega, by omega, hx', hy', by rw [step, if_pos hlt]; exact hw'⟩, by dsimp only; omega⟩, fun hx => absurd ?_ hx⟩
      rw [if_neg (by omega), if_pos hlt]
      decide
    · refine ⟨fun hx => absurd hx ?_, fun _ => ⟨⟨by omega, by omega⟩, ⟨rfl, by omega, by omega, hx, hy, by rw [step, if_neg hlt]; exact hw⟩, by dsimp only; omega⟩⟩
      rw [if_neg hlt]
      split <;> decide
  · have : i.toNat = l.length := by omega
    rw [this] at hw
    obtain ⟨g1, g2⟩ := wv_U hx hy
    rw [hw] at g1 g2
    refine spec.slices_Clone___int_int_ (hs.mono o4.le) (by omega) fun s' u' ho _ => ⟨ho.le, ?_⟩
    rw [g1, g2]
    exact hK _ _ _ (ho.weaken o4.le)

end Go.Proofs.YtncgdoeobblnkaaGreat

/- VcRangeG -/
namespace Go.Proofs.YtncgdoeobblnkaaGreat
open Go.RowKit

end Go.Proofs.YtncgdoeobblnkaaGreat

/- VcRangeM -/
namespace Go.Proofs.YtncgdoeobblnkaaGreat
open Go.RowKit

/-- A body's promise, in a round: x, x2: the loop's variables. -/
def RoundOk2 (P : Program) (n : Nat) (assign body : Code) (env : List (Nat × Value)) (x x2 : Nat) (y y2 : Value) (v : H) (J : H → Prop) : Prop :=
  ∀ l a w, a.tmps.size = n → (∀ p ∈ env, p.1 ≠ x → p.1 ≠ x2 → a.tmps[p.1]? = some p.2) → a.tmps[x]? = some y → a.tmps[x2]? = some y2 → a.defers = [] → Sub v w →
    assign.wpIn (Fr (some l)) 0 P (Exit.then (fun a1 w1 => ∃ v1, Step v [] w v1 [] w1 ∧ ∀ w2, Sub v1 w2 →
      body.wpIn (Fr (some l)) 0 P (fun e _ w3 => e = .normal ∧ ∃ v2, J v2 ∧ Step v1 [] w2 v2 [] w3) a1 w2) (fun _ _ _ => False)) a w

theorem RoundOk2.of {C : Cfg} (hG : Good C) {n : Nat} {assign body : Code} {env : List (Nat × Value)} {x x2 : Nat} {y y2 : Value} {v : H} {J : H → Prop} (ha : plainC assign = true) (hb : plainC body = true)
    (env' : List (Nat × SV)) (henv : ∀ p ∈ env', ∃ z, conc [] p.2 = some z ∧ ((p.1 = x ∧ z = y) ∨ (p.1 = x2 ∧ z = y2) ∨ p.1 ≠ x ∧ p.1 ≠ x2 ∧ (p.1, z) ∈ env))
    (h : WPc C [] assign 1 (fun _ => true) (fun e s u => e = .normal ∧ s.loc = [] ∧ WPc C [] body 1 (fun _ => true) (fun e _ u => e = .normal ∧ J u) s u) { n := n, env := env', loc := [] } v) :
    RoundOk2 C.P n assign body env x x2 y y2 v J := by
  intro l a w hsz he hx hxx hd hs
  have hf : Fits { n := n, env := env', loc := [] } [] v a w := by
    refine ⟨⟨hd, hsz, fun p hp => ?_⟩, rfl, fun i cs e => by simp at e, by simp, by simp, hs⟩
    obtain ⟨z, h1, h2⟩ := henv p hp
    refine ⟨z, h1, ?_⟩
    rcases h2 with ⟨h3, rfl⟩ | ⟨h3, rfl⟩ | ⟨h3, h5, h4⟩
    · rw [h3]; exact hx
    · rw [h3]; exact hxx
    · exact he _ h4 h3 h5
  refine wpIn_mono (code_soundIn hG (some l) assign ha 1 _ _ _ v h [] a w hf) ?_
  rintro e a1 w1 ⟨_, s', u', bs', ⟨rfl, hloc, hb'⟩, hf', hst, _, _⟩
  have hbs : bs' = [] := by have := hf'.len; rw [hloc] at this; simpa using this
  subst hbs
  refine ⟨u', hst, fun w2 hw2 => ?_⟩
  have hf2 : Fits s' [] u' a1 w2 := ⟨hf'.toFitsE, hf'.len, fun i cs e => by rw [hloc] at e; simp at e, by simp, by simp, hw2⟩
  refine wpIn_mono (code_soundIn hG (some l) body hb 1 _ _ s' u' hb' [] a1 w2 hf2) ?_
  rintro e a2 w3 ⟨_, s2, u2, bs2, ⟨rfl, hj⟩, hf3, hst2, _, _⟩
  exact ⟨rfl, u2, hj, hst2.forget⟩

end Go.Proofs.YtncgdoeobblnkaaGreat

/- VcPerm -/
namespace Go.Proofs.YtncgdoeobblnkaaGreat

def nxS (st : Int) : Int := IntKind.u64.wrap (st + 11400714819323198485)
def outS (x : Int) : Int :=
  bits .xor .u64 (IntKind.u64.wrap (bits .xor .u64 (IntKind.u64.wrap (bits .xor .u64 x (Int.fdiv x (2 ^ 30)) * 13787848793156543929)) (Int.fdiv (IntKind.u64.wrap (bits .xor .u64 x (Int.fdiv x (2 ^ 30)) * 13787848793156543929)) (2 ^ 27)) * 10723151780598845931))
    (Int.fdiv (IntKind.u64.wrap (bits .xor .u64 (IntKind.u64.wrap (bits .xor .u64 x (Int.fdiv x (2 ^ 30)) * 13787848793156543929)) (Int.fdiv (IntKind.u64.wrap (bits .xor .u64 x (Int.fdiv x (2 ^ 30)) * 13787848793156543929)) (2 ^ 27)) * 10723151780598845931)) (2 ^ 31))

theorem bits_U (op : BinOp) (x y : Int) : U64 (bits op .u64 x y) := by
  have := wf_bits op .u64 x y
  simp [Lit.wf, IntKind.min, IntKind.max, IntKind.signed, IntKind.bits] at this
  unfold U64
  omega

theorem wrap_U (x : Int) : U64 (IntKind.u64.wrap x) := by
  have := wf_wrap .u64 x
  simp [Lit.wf, IntKind.min, IntKind.max, IntKind.signed, IntKind.bits] at this
  unfold U64
  omega

theorem outS_U (x : Int) : U64 (outS x) := bits_U _ _ _
theorem nxS_U (x : Int) : U64 (nxS x) := wrap_U _

theorem below_eq {x n : Int} (hx : U64 x) (h1 : 1 ≤ n) (h2 : n ≤ 1000000000) : IntKind.u64.wrap n ≠ 0 ∧ IntKind.i64.wrap (Int.tmod x (IntKind.u64.wrap n)) = x % n := by
  have e1 : IntKind.u64.wrap n = n := IntWalk.u64_in n (by omega)
  have e2 : Int.tmod x n = x % n := Int.tmod_eq_emod_of_nonneg hx.1
  have h3 := Int.emod_nonneg x (show n ≠ 0 by omega)
  have h4 := Int.emod_lt_of_pos x (show 0 < n by omega)
  rw [e1, e2]
  exact ⟨by omega, IntWalk.i64_in _ (by omega)⟩

theorem spec.rand_Next {src : Nat} {st : Int} {u : H} {K : Int → H → Prop} (h : u src = some (.cells #[.int .u64 st] 164 (0, 0)))
    (hK : K (outS (nxS st)) (u.ins src (.cells #[.int .u64 (nxS st)] 164 (0, 0)))) : C.rand_Source__Next (some ⟨src, 0, none⟩) u K := by
  apply vc.rand_Source__Next
  exact ⟨fun h => (by cases h), fun _ => ⟨_, rfl, st, H.cell?_of h 0, _, rfl, st_one h (by simp [Value.oneCell']) ⟨_, rfl, _, H.cell?_of (H.ins_same _ _ _) 0, by omega, by omega, by omega, hK⟩⟩⟩

theorem spec.rand_Below {src : Nat} {st n : Int} {u : H} {K : Int → Int → H → Prop} (h : u src = some (.cells #[.int .u64 st] 164 (0, 0))) (h1 : 1 ≤ n) (h2 : n ≤ 1000000000)
    (hK : K (outS (nxS st) % n) 0 (u.ins src (.cells #[.int .u64 (nxS st)] 164 (0, 0)))) : C.rand_Source__Below (some ⟨src, 0, none⟩) n u K := by
  obtain ⟨e1, e2⟩ := below_eq (outS_U (nxS st)) h1 h2
  apply vc.rand_Source__Below
  apply vc.rand_Source__may
  refine ⟨fun h => (by cases h), fun _ => ⟨fun h => by omega, fun _ => ⟨fun h => by omega, fun _ => ⟨fun h => absurd rfl h, fun _ => spec.rand_Next h ⟨e1, ?_⟩⟩⟩⟩⟩
  rw [e2]
  exact hK

end Go.Proofs.YtncgdoeobblnkaaGreat

/- VcVp0 -/
namespace Go.Proofs.YtncgdoeobblnkaaGreat

theorem Rok.mix {l m : List Rw} {d : Int} (h : Rok l d) (hp : m.Perm l) : Rok m d :=
  ⟨h.dim, by rw [hp.length_eq]; exact h.len, fun r hr => h.id r (hp.mem_iff.1 hr), (hp.map _).nodup_iff.2 h.nodup, fun r hr => h.v r (hp.mem_iff.1 hr)⟩

theorem own_blk {u : H} {e k : Nat} {s : Sl} {xs : List Value} (h : Own u e k s xs) {g : Nat} (hg : s.blk = some g) : u g ≠ none := own_known h.f hg

def SrcAt (u : H) (src : Nat) : Prop := ∃ st, u src = some (.cells #[.int .u64 st] 164 (0, 0))

/-- All that is known but for one block. -/
def H.no (u : H) (b : Nat) : H := fun c => if c = b then none else u c
theorem no_at {u : H} {b c : Nat} (h : c ≠ b) : H.no u b c = u c := if_neg h
theorem no_self (u : H) (b : Nat) : H.no u b b = none := if_pos rfl
theorem no_le (u : H) (b : Nat) : (H.no u b).le u := fun c o h => by
  by_cases e : c = b
  · rw [e, no_self] at h; cases h
  · rw [no_at e] at h; exact h
theorem le_no {v u : H} {b : Nat} (h : v.le u) (hb : v b = none) : v.le (H.no u b) := fun c o hc => by
  rw [no_at (fun e => by rw [e, hb] at hc; cases hc)]; exact h c o hc

/-- What a cut of rows leaves: parts of their own; the source is at another place. -/
structure CutS (ub u : H) (src : Nat) (s : Sl) (l : List Rw) (d : Int) (u' : H) (n : PN) : Prop where
  one : ∀ x ∈ n.heads, PhAt u' x
  nodup : n.own.Nodup
  out : ∀ c ∈ n.own, ub c = none ∧ u' c ≠ none ∧ c ≠ src
  all : n.pt.all.Perm (l.map Rw.pr)
  ok : PtOk d n.pt
  rows : ∀ x ∈ n.heads, ∀ r ∈ x.1.rows, r ∈ l
  size : n.heads.length + 1 ≤ 2 * l.length
  else' : ∀ c o, u c = some o → s.blk ≠ some c → c ≠ src → u' c = some o
  src : SrcAt u' src
  shp : PtSh 3 n.pt
  bin : PtBin n.pt

namespace Vp
theorem bCut : hasBody Tryz.prog 72 = true := by kernel_rfl
theorem bFar : hasBody Tryz.prog 75 = true := by kernel_rfl
theorem bCmp : hasBody Tryz.prog 77 = true := by kernel_rfl
theorem build_kids (a b : Nat) : buildOf Tryz.prog 94 2 #[(0, .pointer (some ⟨a, 0, none⟩)), (1, .pointer (some ⟨b, 0, none⟩))] = some (84, [.pointer (some ⟨a, 0, none⟩), .pointer (some ⟨b, 0, none⟩)]) := by kernel_rfl

abbrev cutV (n0 n1 : Nat) : Value := .func (.func 72) #[] #[.pointer (some ⟨n0, 0, none⟩), .pointer (some ⟨n1, 0, none⟩)]
abbrev farV (n10 : Nat) : Value := .func (.func 75) #[] #[.pointer (some ⟨n10, 0, none⟩)]

/-- What a cut looks at. -/
structure CutIn (ub : H) (n0 n1 tb src : Nat) (leaf : Int) : Prop where
  c0 : ub.cell? ⟨n0, 0, none⟩ = some (.pointer (some ⟨tb, 0, none⟩))
  c1 : ub.cell? ⟨n1, 0, none⟩ = some (cutV n0 n1)
  tl : ub.cell? ((Addr.mk tb 0 none).add 1) = some (.int .i64 leaf)
  ts : ub.cell? ((Addr.mk tb 0 none).add 2) = some (.pointer (some ⟨src, 0, none⟩))

theorem CutIn.mono {ub u : H} {n0 n1 tb src : Nat} {leaf : Int} (h : CutIn ub n0 n1 tb src leaf) (k : ub.le u) : CutIn u n0 n1 tb src leaf := ⟨H.le.cell k h.c0, H.le.cell k h.c1, H.le.cell k h.tl, H.le.cell k h.ts⟩

/-- The nearer to the centre. -/
theorem cut_cmp {ub : H} {n10 n24 : Nat} {s8 : Sl} {c : List Int} {l : List Rw} {d : Int} (h24 : ub.cell? ⟨n24, 0, none⟩ = some (farV n10)) (h10 : ub.cell? ⟨n10, 0, none⟩ = some (.slice s8.a s8.n s8.c)) (h8 : Ints ub s8 c) (hc : vok c) (hcd : (c.length : Int) = d) (hd : 1 ≤ d) (hv : ∀ r ∈ l, Ints ub r.s r.v) (hok : Rok l d) :
    CmpOk ub l (.func (.func 77) #[] #[.pointer (some ⟨n24, 0, none⟩)]) := by
  intro a b v K ha hb hle hK
  refine ⟨_, _, _, rfl, bodyOf bCmp, vc.vptree_Tree__cut_1_2 a.id a.s b.id b.s ⟨n24, 0, none⟩ v K ?_⟩
  have c24 := H.le.cell hle h24
  have c10 := H.le.cell hle h10
  have v8 := h8.mono hle
  have far : ∀ {r : Rw} {Q : Int → Int → H → Prop}, r ∈ l → (∀ x y, U64 x → U64 y → Q x y v) → ClV Tryz.prog (farV n10) #[.agg #[.int .i64 r.id, .slice r.s.a r.s.n r.s.c]] [.agg [.int .u64, .int .u64]] v Q := fun {r Q} hr hQ => by
    obtain ⟨r1, r2⟩ := hok.v r hr
    exact ⟨_, _, _, rfl, bodyOf bFar, vc.vptree_Tree__cut_1_1 r.id r.s ⟨n10, 0, none⟩ v Q ⟨s8, c10, spec.vec_Dist v8 ((hv r hr).mono hle) hc (by omega) r2 (by omega) fun x y hx hy _ => hQ x y hx hy⟩⟩
  exact ⟨_, c24, _, c24, far ha fun x y hx hy => ⟨H.le.refl _, far hb fun x' y' hx' hy' => spec.wide_Cmp hy hy' (hK _)⟩⟩

theorem spec.cut1 {n0 n1 tb src : Nat} {d leaf : Int} (hlf : 1 ≤ leaf) : ∀ (N : Nat) {ub u : H} {s : Sl} {l : List Rw} {K : Option Addr → H → Prop}, l.length ≤ N → CutIn ub n0 n1 tb src leaf → ub src = none → SrcAt u src → s.blk ≠ some src → OwnF ub u 43 2 s (l.flatMap encR) → (∀ r ∈ l, Ints ub r.s r.v) → Rok l d →
    (l = [] → K none u) → (l ≠ [] → ∀ u' n, CutS ub u src s l d u' n → K (some ⟨n.b, 0, none⟩) u') → C.vptree_Tree__cut_1 s ⟨n0, 0, none⟩ ⟨n1, 0, none⟩ u K := by
  intro N
  induction N with
  | zero =>
    intro ub u s l K hN hin _ _ _ ho hv hok h0 _
    have hl : l = [] := List.eq_nil_of_length_eq_zero (by omega)
    have hsn : s.n = l.length := flat_n encR_len (by decide) ho.own.seg
    apply vc.vptree_Tree__cut_1
    refine ⟨fun _ => h0 hl, fun hne => absurd (by rw [hsn, hl]; rfl) hne⟩
  | succ N ih =>
    intro ub u s l K hN hin hus hsrc hss ho hv hok h0 hK
    have hsn : s.n = l.length := flat_n encR_len (by decide) ho.own.seg
    have hd := hok.dim
    have h512 := hok.len
    apply vc.vptree_Tree__cut_1
    refine ⟨fun hz => h0 (List.eq_nil_of_length_eq_zero (by omega)), fun hnz => ?_⟩
    have hne : l ≠ [] := fun e => hnz (by rw [hsn, e]; rfl)
    have hK := hK hne
    have hub := ho.le
    obtain ⟨st, hst⟩ := hsrc
    refine ⟨_, H.le.cell hub hin.c0, _, rfl, _, H.le.cell hub hin.ts, spec.rand_Below hst (by omega) (by omega) ?_⟩
    -- the source has gone on
    obtain ⟨u5, hu5⟩ : ∃ u5, u5 = u.ins src (.cells #[.int .u64 (nxS st)] 164 (0, 0)) := ⟨_, rfl⟩
    rw [← hu5]
    have s5 : u5 src = some (.cells #[.int .u64 (nxS st)] 164 (0, 0)) := by rw [hu5]; exact H.ins_same _ _ _
    have e5 : ∀ c o, u c = some o → c ≠ src → u5 c = some o := fun c o hc hne => by rw [hu5, H.ins_other _ _ hne]; exact hc
    have n5 : ∀ {c}, u5 c = none → u c = none := fun {c} hc => by
      by_cases e : c = src
      · rw [e, s5] at hc; cases hc
      · rw [hu5, H.ins_other _ _ e] at hc; exact hc
    have hub5 : ub.le u5 := fun c o hc => e5 c o (hub c o hc) fun e => by rw [e, hus] at hc; cases hc
    have ho5 : OwnF ub u5 43 2 s (l.flatMap encR) := ⟨ho.own.le fun c o hc hx => e5 c o hx fun e => hss (by rw [hc, e]), hub5, ho.fresh⟩
    have hR5 : Rws u5 s l := ⟨ho5.own.seg, fun r hr => (hv r hr).mono hub5⟩
    obtain ⟨at0, hat0⟩ : ∃ x, x = outS (nxS st) % (s.n : Int) := ⟨_, rfl⟩
    have a1 : 0 ≤ at0 := by rw [hat0]; exact Int.emod_nonneg _ (by omega)
    have a2 : at0 < s.n := by rw [hat0]; exact Int.emod_lt_of_pos _ (by omega)
    rw [← hat0]
    obtain ⟨p6, hp6, rc, hrc, _, c1, c2⟩ := hR5.at a1 a2
    have hrcm : rc ∈ l := List.mem_of_getElem? hrc
    obtain ⟨k1, k2⟩ := hok.v rc hrcm
    have krn := c2.len
    refine ⟨p6, hp6, ⟨a1, a2⟩, rc.s, c1, spec.slices_Clone___int_int_ c2 (by omega) fun s8 u9 ho8 _ => ?_⟩
    have le9 := ho8.le
    intro n10 hn10
    refine st_new (zs := [.slice none 0 0]) rfl (by simp [Value.oneCell']) ?_
    obtain ⟨u11, hu11⟩ : ∃ u11, u11 = u9.ins n10 (.cells [Value.slice s8.a s8.n s8.c].toArray 41 (0, 0)) := ⟨_, rfl⟩
    rw [← hu11]
    have l11 : u9.le u11 := by rw [hu11]; exact H.le_ins _ hn10
    have d10 : u11 n10 = some (.cells [Value.slice s8.a s8.n s8.c].toArray 41 (0, 0)) := by rw [hu11]; exact H.ins_same _ _ _
    have l511 : u5.le u11 := le9.trans l11
    have hR11 : Rws u11 s l := hR5.mono l511
    have h8 : Ints u11 s8 rc.v := ho8.ints.mono l11
    refine ⟨s8, H.cell?_of d10 0, spec.vec_Ball h8 k2 hR11 (by rw [k1]; exact hok) fun sl i18 u20 h1 => ?_⟩
    have le20 : u11.le u20 := h1.le
    obtain ⟨R, hR⟩ : ∃ R, R = radTo rc.v l l.length := ⟨_, rfl⟩
    rw [← hR]
    have Rok' : Dok R := by rw [hR]; exact radTo_ok k2 (by rw [k1]; exact hok) _ (Nat.le_refl _)
    have l520 : u5.le u20 := l511.trans le20
    have hubw : ub.le u20 := hub5.trans l520
    have s20 : u20 src = some (.cells #[.int .u64 (nxS st)] 164 (0, 0)) := l520 _ _ s5
    -- new blocks are not known before, nor the source's
    have fresh : ∀ {c}, u11 c = none → ub c = none ∧ c ≠ src ∧ s.blk ≠ some c := fun {c} hc => ⟨hub5.none (l511.none hc), (fun e => by
      have h9 := l511.none hc
      rw [e, s5] at h9
      cases h9), fun e => own_known ho5 e (l511.none hc)⟩
    have reg : ∀ rows kids, RegOk ((Pt.mk 3 rc.v [] R rows kids).rgn []) d := fun rows kids => ⟨hd, List.Pairwise.nil, fun x hx => (by cases hx), .inr (.inr ⟨rfl, rfl, k2, k1, Rok'⟩)⟩
    have ins : ∀ rows kids, ∀ z ∈ l.map Rw.pr, Inside ((Pt.mk 3 rc.v [] R rows kids).rgn []) z.2 := fun rows kids z hz => by
      obtain ⟨r, hr, rfl⟩ := List.mem_map.1 hz
      refine ⟨fun h => (by cases h), fun _ => ?_⟩
      obtain ⟨i, hi, hir⟩ := List.getElem_of_mem hr
      show sqTo rc.v r.v rc.v.length ≤ R
      rw [hR]
      exact (radTo_ge rc.v l l.length).2 i r hi (by rw [List.getElem?_eq_getElem hi, hir])
    have kl : ∀ g, sl.blk = some g → u20 g ≠ none := fun g hg => own_known h1 hg
    have fl : ∀ g, sl.blk = some g → u11 g = none := fun g hg => h1.fresh g hg
    have ks20 : ∀ g, s.blk = some g → u20 g ≠ none := fun g hg => own_known (ho5.mono l520) hg
    intro K21 h21
    have leafc : ∀ n31, u20 n31 = none → K (some ⟨n31, 0, none⟩) (u20.ins n31 (.cells #[.int .i64 3, .slice sl.a sl.n sl.c, .slice none 0 0, .int .u64 (hiW R), .int .u64 (loW R), .slice none 0 0, .slice s.a s.n s.c, .slice none 0 0] 96 (0, 0))) := by
      intro n31 hn31
      obtain ⟨hd31, hhd⟩ : ∃ hh : PH, hh = ⟨n31, 3, sl, ⟨none, 0, 0⟩, rc.v, [], R, s, l, ⟨none, 0, 0⟩⟩ := ⟨_, rfl⟩
      have l31 := H.le_ins (u := u20) (b := n31) (.cells (partC hd31).toArray 96 (0, 0)) hn31
      have key := hK (u20.ins n31 (.cells (partC hd31).toArray 96 (0, 0))) (.mk hd31 [])
      have hown : (PN.mk hd31 []).own = n31 :: (sl.blk.toList ++ s.blk.toList) := by
        rw [PN.own_eq, hhd]
        simp [PN.h, PN.kids, PH.blks, Sl.blk]
      have hcell : (Obj.cells #[.int .i64 3, .slice sl.a sl.n sl.c, .slice none 0 0, .int .u64 (hiW R), .int .u64 (loW R), .slice none 0 0, .slice s.a s.n s.c, .slice none 0 0] 96 (0, 0)) = .cells (partC hd31).toArray 96 (0, 0) := by rw [hhd]; rfl
      rw [hcell]
      have hb31 : (PN.mk hd31 []).b = n31 := by rw [hhd]; rfl
      rw [hb31] at key
      have f31 := fresh (le20.none hn31)
      refine key ⟨fun y hy => ?_, ?_, fun c hc => ?_, ?_, ?_, fun y hy r hr => ?_, ?_, fun c o hc hne' hcs => l31 c o (l520 c o (e5 c o hc hcs)), ⟨_, l31 _ _ s20⟩, by rw [PN.pt_eq, hhd]; exact .mk rfl fun k hk => (by cases hk), bin_of (.inl rfl) fun k hk => (by cases hk)⟩
      · rw [PN.heads_eq] at hy
        obtain rfl : y = (hd31, []) := by simpa [PN.h, PN.kids] using hy
        subst hhd
        exact ⟨H.ins_same _ _ _, (h1.mono l31).own, Own.nil _ _ _, ((ho5.mono l520).mono l31).own, fun r hr => (hv r hr).mono (hubw.trans l31), ⟨rfl, Nat.le_refl _, by show 0 ≤ 9223372036854775807; omega, .inl rfl⟩⟩
      · rw [hown, List.nodup_cons]
        refine ⟨fun hm => ?_, ?_⟩
        · simp only [List.mem_append, Option.mem_toList] at hm
          rcases hm with hm | hm
          · exact kl n31 hm hn31
          · exact ks20 n31 hm hn31
        · have o1 : ∀ o : Option Nat, o.toList.Nodup := fun o => by cases o <;> simp
          rw [List.nodup_append]
          refine ⟨o1 _, o1 _, fun a ha b hb e => ?_⟩
          rw [Option.mem_toList] at ha hb
          subst e
          exact (fresh (fl a ha)).2.2 hb
      · rw [hown] at hc
        simp only [List.mem_cons, List.mem_append, Option.mem_toList] at hc
        rcases hc with rfl | hc | hc
        · exact ⟨f31.1, by rw [H.ins_same]; simp, f31.2.1⟩
        · have := fresh (fl c hc)
          exact ⟨this.1, fun e => kl c hc (l31.none e), this.2.1⟩
        · exact ⟨ho.fresh c hc, fun e => ks20 c hc (l31.none e), fun e => hss (by rw [← e]; exact hc)⟩
      · rw [PN.pt_all, PN.heads_eq]
        subst hhd
        simp [PN.h, PN.kids]
      · rw [PN.pt_eq]
        subst hhd
        refine .mk (reg _ _) (fun z hz => ins _ _ z ?_) fun k hk => (by cases hk)
        rw [Pt.all_eq] at hz
        have hz' : z ∈ l.map Rw.pr ++ [] := hz
        rwa [List.append_nil] at hz'
      · rw [PN.heads_eq] at hy
        obtain rfl : y = (hd31, []) := by simpa [PN.h, PN.kids] using hy
        subst hhd
        exact hr
      · rw [PN.heads_eq]
        have := List.length_pos_iff.2 hne
        simp [PN.kids]
        omega
    refine ⟨_, H.le.cell hubw hin.c0, _, rfl, leaf, H.le.cell hubw hin.tl, fun _ => leafc, fun hgt => ⟨fun _ => leafc, fun _ => h21 none u20 fun n24 hn24 => ?_⟩⟩
    -- two kids
    refine st_new (zs := [.nilFunc]) rfl (by simp [Value.oneCell']) ?_
    obtain ⟨w, hw⟩ : ∃ w, w = u20.ins n24 (.cells [farV n10].toArray 125 (0, 0)) := ⟨_, rfl⟩
    rw [← hw]
    have l20w : u20.le w := by rw [hw]; exact H.le_ins _ hn24
    have d24 : w n24 = some (.cells [farV n10].toArray 125 (0, 0)) := by rw [hw]; exact H.ins_same _ _ _
    have d10w : w n10 = some (.cells [Value.slice s8.a s8.n s8.c].toArray 41 (0, 0)) := l20w _ _ (le20 _ _ d10)
    have l5w : u5.le w := l520.trans l20w
    have ubw : ub.le w := hubw.trans l20w
    have how : OwnF ub w 43 2 s (l.flatMap encR) := ho5.mono l5w
    have hsk : ∀ c, s.blk = some c → u5 c ≠ none := fun c hc => own_known ho5 hc
    obtain ⟨ubS, hubS⟩ : ∃ ubS : H, ubS = H.sans w s := ⟨_, rfl⟩
    have lS : ub.le ubS := fun c o hc => by
      rw [hubS, sans_at (fun e => by rw [ho.fresh c e] at hc; cases hc)]
      exact ubw c o hc
    have S24 : ubS n24 = w n24 := by rw [hubS]; exact sans_at fun e => hsk _ e (l520.none hn24)
    have S10 : ubS n10 = w n10 := by rw [hubS]; exact sans_at fun e => hsk _ e (le9.none hn10)
    have S8 : Ints ubS s8 rc.v := Seg.else (h8.mono (le20.trans l20w)) fun g o hg hx => by
      rw [hubS, sans_at (fun e => hsk _ e (ho8.fresh g hg))]
      exact hx
    refine spec.slices_SortStableFunc__api_Row_ how (by rw [hubS]; exact sans_le _ _) (fun b hb => by rw [hubS]; exact if_pos hb) (cut_cmp (n10 := n10) (by rw [d24] at S24; exact H.cell?_of S24 0) (by rw [d10w] at S10; exact H.cell?_of S10 0) S8 k2 k1 hd.1 (fun r hr => (hv r hr).mono lS) hok) (by omega) fun u32 m hp hom he32 => ?_
    have hml := hp.length_eq
    have hubu : ub.le u32 := fun c o hc => he32 c o (ubw c o hc) fun e => by have := ho.fresh c e; rw [hc] at this; cases this
    have s32 : SrcAt u32 src := ⟨_, he32 _ _ (l20w _ _ s20) hss⟩
    have hmok : Rok m d := hok.mix hp
    have hmv : ∀ r ∈ m, Ints ub r.s r.v := fun r hr => hv r (hp.mem_iff.1 hr)
    have hRm : Rws u32 s m := ⟨hom.own.seg, fun r hr => (hmv r hr).mono hubu⟩
    have hcap := Seg.cap hom.own.seg
    obtain ⟨mid, hmid⟩ : ∃ mid : Nat, mid = s.n / 2 := ⟨_, rfl⟩
    have emid : Int.tdiv (s.n : Int) 2 = (mid : Int) := by rw [Int.tdiv_eq_ediv_of_nonneg (by omega)]; omega
    rw [emid]
    have slL : ∀ {z : H} {Q : Sl → H → Prop}, Q (s.part 0 mid s.c 2) z → SemT Tryz.prog (Instr.sliceAt 22 (.slice s.a s.n s.c) none (some (.int .i64 (mid : Int))) none) [.one .slice] z Q := fun hQ =>
      sem_slice (P := Tryz.prog) tRows (l := 0) (h := mid) (m := s.c) (.inl ⟨rfl, rfl⟩) (.inr rfl) (.inl ⟨rfl, rfl⟩) (by omega) (by omega) (Nat.le_refl _) hcap hQ
    have slR : ∀ {z : H} {Q : Sl → H → Prop}, Q (s.part mid s.n s.c 2) z → SemT Tryz.prog (Instr.sliceAt 22 (.slice s.a s.n s.c) (some (.int .i64 (mid : Int))) none none) [.one .slice] z Q := fun hQ =>
      sem_slice (P := Tryz.prog) tRows (l := mid) (h := s.n) (m := s.c) (.inr rfl) (.inl ⟨rfl, rfl⟩) (.inl ⟨rfl, rfl⟩) (by omega) hcap (Nat.le_refl _) hcap hQ
    have hl1 : (m.take mid).length = mid := by rw [List.length_take]; omega
    have hl2 : (m.drop mid).length = m.length - mid := by rw [List.length_drop]
    have hne1 : m.take mid ≠ [] := fun e => by rw [e] at hl1; simp at hl1; omega
    have hne2 : m.drop mid ≠ [] := fun e => by rw [e] at hl2; simp at hl2; omega
    -- z: what is known later: all but the source's place
    have segS : ∀ {z : H}, (∀ c o, u32 c = some o → c ≠ src → z c = some o) → Rws z s m := fun {z} hz => ⟨Seg.else hom.own.seg fun c o hc hx => hz c o hx fun e => hss (by rw [hc, e]), fun r hr => (hmv r hr).mono fun c o hc => hz c o (hubu c o hc) fun e => by rw [e, hus] at hc; cases hc⟩
    have partL : ∀ {z : H}, Rws z s m → Rws z (s.part 0 mid s.c 2) (m.take mid) := fun hz => by
      have := hz.part (l := 0) (h := mid) (m := s.c) (by omega) (by omega) (by omega) (Nat.le_refl _)
      simpa using this
    have partR : ∀ {z : H}, Rws z s m → Rws z (s.part mid s.n s.c 2) (m.drop mid) := fun hz => by
      have := hz.part (l := mid) (h := s.n) (m := s.c) (by omega) (Nat.le_refl _) hcap (Nat.le_refl _)
      rwa [List.take_of_length_le (by rw [List.length_drop]; omega)] at this
    have lub : ∀ {z : H}, (∀ c o, u32 c = some o → c ≠ src → z c = some o) → ub.le z := fun hz c o hc => hz c o (hubu c o hc) fun e => by rw [e, hus] at hc; cases hc
    -- a kid is cut
    have recK : ∀ {z z' : H} {t : Sl} {k : List Rw} {Q : Option Addr → H → Prop}, (∀ c o, u32 c = some o → c ≠ src → z c = some o) → SrcAt z src → OwnF z z' 43 2 t (k.flatMap encR) → k ≠ [] → k.length ≤ N → k.Sublist m → (∀ u' n, CutS (H.no z src) z' src t k d u' n → (∀ c o, z c = some o → c ≠ src → u' c = some o) → Q (some ⟨n.b, 0, none⟩) u') →
        ClV Tryz.prog (cutV n0 n1) #[.slice t.a t.n t.c] [.one .ptr] z' Q := fun {z z' t k Q} hz hs hot hk hkN hkm hQ => by
      have lz : ub.le (H.no z src) := le_no (lub hz) hus
      obtain ⟨st', hst'⟩ := hs
      have hts : t.blk ≠ some src := fun e => by have := hot.fresh src e; rw [hst'] at this; cases this
      exact ⟨_, _, _, rfl, bodyOf bCut, ih hkN (hin.mono lz) (no_self _ _) ⟨st', hot.le _ _ hst'⟩ hts ⟨hot.own, (no_le _ _).trans hot.le, fun g hg => (no_le z src).none (hot.fresh g hg)⟩ (fun r hr => (hmv r (hkm.mem hr)).mono lz) (hmok.sub hkm) (fun e => absurd e hk) fun _ u' n hc => hQ u' n hc fun c o ho' hcs => hc.else' c o (hot.le c o ho') (fun e => by have := hot.fresh c e; rw [ho'] at this; cases this) hcs⟩
    have own1 : Own u32 3 1 sl (rc.v.flatMap encI) := (h1.mono l20w).own.le fun c o hc ho' => he32 c o ho' fun e => (fresh (fl c hc)).2.2 e
    -- behind the first kid
    have second : ∀ {z zb z1 : H} {t : Sl} {na : PN}, (∀ c o, u32 c = some o → c ≠ src → zb c = some o) → (∀ c o, zb c = some o → c ≠ src → z c = some o) → CutS (H.no zb src) z1 src t (m.take mid) d z na → C.slices_Clone__api_Row_ (s.part mid s.n s.c 2) z (fun (s43 : Sl) (u44 : H) => (H.le ub u44) ∧ (ClV Tryz.prog (cutV n0 n1) #[.slice s43.a s43.n s43.c] [.one .ptr] u44 (fun (p45 : Option Addr) (u46 : H) => (H.le ub u46) ∧ (SemT Tryz.prog (Instr.buildSlice 94 2 #[(0, .pointer (some ⟨na.b, 0, none⟩)), (1, .pointer p45)]) [.one .slice] u46 (fun (s47 : Sl) (u48 : H) => (H.le ub u48) ∧ (∀ n49 : Nat, (u48 n49 = none) → K (some ⟨n49, 0, none⟩) (u48.ins n49 (.cells #[.int .i64 3, .slice sl.a sl.n sl.c, .slice none 0 0, .int .u64 (hiW R), .int .u64 (loW R), .slice none 0 0, .slice none 0 0, .slice s47.a s47.n s47.c] 96 (0, 0))))))))) := by
      intro z zb z1 t na hzb hzz hc
      have hz : ∀ c o, u32 c = some o → c ≠ src → z c = some o := fun c o h1 h2 => hzz c o (hzb c o h1 h2) h2
      have lubz := lub hz
      refine spec.slices_Clone__api_Row_ (partR (segS hz)).1 (by show s.n - mid ≤ _; omega) fun s43 u44 ho44 _ => ⟨lubz.trans ho44.le, recK hz hc.src ho44 hne2 (by omega) (List.drop_sublist _ _) fun u46 nb hb l46 => ?_⟩
      have hz46 : ∀ c o, u32 c = some o → c ≠ src → u46 c = some o := fun c o h1 h2 => l46 c o (hz c o h1 h2) h2
      refine ⟨lub hz46, ?_⟩
      refine sem_build (build_kids na.b nb.b) fun g hg => ?_
      have l48 := H.le_ins (u := u46) (b := g) (.cells [Value.pointer (some ⟨na.b, 0, none⟩), .pointer (some ⟨nb.b, 0, none⟩)].toArray 84 (0, 0)) hg
      have mk := OwnF.make (k := 1) (H.le.refl u46) hg (cells := [Value.pointer (some ⟨na.b, 0, none⟩), .pointer (some ⟨nb.b, 0, none⟩)].toArray) (e := 84) (n := 2) (by omega) rfl
      obtain ⟨u48, hu48⟩ : ∃ u48, u48 = u46.ins g (.cells [Value.pointer (some ⟨na.b, 0, none⟩), .pointer (some ⟨nb.b, 0, none⟩)].toArray 84 (0, 0)) := ⟨_, rfl⟩
      have hg48 : u48 g ≠ none := by rw [hu48, H.ins_same]; simp
      rw [← hu48] at l48 mk ⊢
      refine ⟨(lub hz46).trans l48, fun n49 hn49 => ?_⟩
      obtain ⟨hd4, hhd⟩ : ∃ hh : PH, hh = ⟨n49, 3, sl, ⟨none, 0, 0⟩, rc.v, [], R, ⟨none, 0, 0⟩, [], ⟨some ⟨g, 0, none⟩, 2, 2⟩⟩ := ⟨_, rfl⟩
      have hcell : (Obj.cells #[.int .i64 3, .slice sl.a sl.n sl.c, .slice none 0 0, .int .u64 (hiW R), .int .u64 (loW R), .slice none 0 0, .slice none 0 0, .slice (some ⟨g, 0, none⟩) 2 2] 96 (0, 0)) = .cells (partC hd4).toArray 96 (0, 0) := by rw [hhd]; rfl
      show K (some ⟨n49, 0, none⟩) (u48.ins n49 (Obj.cells #[.int .i64 3, .slice sl.a sl.n sl.c, .slice none 0 0, .int .u64 (hiW R), .int .u64 (loW R), .slice none 0 0, .slice none 0 0, .slice (some ⟨g, 0, none⟩) 2 2] 96 (0, 0)))
      rw [hcell]
      have l49 := H.le_ins (u := u48) (b := n49) (.cells (partC hd4).toArray 96 (0, 0)) hn49
      obtain ⟨u49, hu49⟩ : ∃ u49, u49 = u48.ins n49 (.cells (partC hd4).toArray 96 (0, 0)) := ⟨_, rfl⟩
      have key := hK u49 (.mk hd4 [na, nb])
      have d49 : u49 n49 = some (.cells (partC hd4).toArray 96 (0, 0)) := by rw [hu49]; exact H.ins_same _ _ _
      rw [← hu49] at l49 ⊢
      have hb4 : (PN.mk hd4 [na, nb]).b = n49 := by rw [hhd]; rfl
      rw [hb4] at key
      have l4649 : u46.le u49 := l48.trans l49
      have x3249 : ∀ c o, u32 c = some o → c ≠ src → u49 c = some o := fun c o h1 h2 => l4649 c o (hz46 c o h1 h2)
      have ubl49 := lub x3249
      have kl32 : ∀ c, sl.blk = some c → u32 c ≠ none ∧ c ≠ src := fun c hc => ⟨own_blk own1 hc, (fresh (fl c hc)).2.1⟩
      have kx : ∀ {a b : H}, (∀ c o, a c = some o → c ≠ src → b c = some o) → ∀ {c}, a c ≠ none → c ≠ src → b c ≠ none := fun {a b} h {c} hc hs => by
        obtain ⟨o, ho'⟩ := Option.ne_none_iff_exists'.1 hc
        rw [h c o ho' hs]; simp
      have k48 : ∀ {c}, u46 c ≠ none → u48 c ≠ none := fun hc e => hc (l48.none e)
      have k49 : ∀ {c}, u48 c ≠ none → u49 c ≠ none := fun hc e => hc (l49.none e)
      have srcU : ∀ {c}, u46 c = none → c ≠ src := fun hc e => by
        obtain ⟨st', hst'⟩ := hb.src
        rw [e, hst'] at hc; cases hc
      have zbn : ∀ {c}, H.no zb src c = none → c ≠ src → zb c = none := fun h hs => by rw [no_at hs] at h; exact h
      have zn : ∀ {c}, H.no z src c = none → c ≠ src → z c = none := fun h hs => by rw [no_at hs] at h; exact h
      have ubn : ∀ {z : H}, ub.le z → ∀ {c}, z c = none → ub c = none := fun {_} h {_} hc => H.le.none h hc
      have hown : (PN.mk hd4 [na, nb]).own = n49 :: ((sl.blk.toList ++ [g]) ++ (na.own ++ nb.own)) := by
        rw [PN.own_eq, hhd]
        simp [PN.h, PN.kids, PH.blks, Sl.blk]
      have hheads : (PN.mk hd4 [na, nb]).heads = (hd4, [na.b, nb.b]) :: (na.heads ++ nb.heads) := by
        rw [PN.heads_eq]
        simp [PN.h, PN.kids]
      have kall : ∀ c ∈ (sl.blk.toList ++ [g]) ++ (na.own ++ nb.own), ub c = none ∧ u48 c ≠ none ∧ c ≠ src := fun c hcm => by
        simp only [List.mem_append, Option.mem_toList, List.mem_singleton] at hcm
        rcases hcm with (hcm | rfl) | hcm | hcm
        · obtain ⟨q1, q2⟩ := kl32 c hcm
          exact ⟨(fresh (fl c hcm)).1, k48 (kx hz46 q1 q2), q2⟩
        · exact ⟨(lub hz46).none hg, hg48, srcU hg⟩
        · obtain ⟨q1, q2, q3⟩ := hc.out c hcm
          exact ⟨ubn (lub hzb) (zbn q1 q3), k48 (kx l46 q2 q3), q3⟩
        · obtain ⟨q1, q2, q3⟩ := hb.out c hcm
          exact ⟨ubn lubz (zn q1 q3), k48 q2, q3⟩
      refine key ⟨fun y hy => ?_, ?_, fun c hcm => ?_, ?_, ?_, fun y hy r hr => ?_, ?_, fun c o hcu hne' hcs => x3249 c o (he32 c o (l5w c o (e5 c o hcu hcs)) hne') hcs, ?_, ?_, ?_⟩
      · rw [hheads] at hy
        rcases List.mem_cons.1 hy with rfl | hy
        · subst hhd
          exact ⟨d49, own1.le fun c o hc' ho' => x3249 c o ho' (kl32 c hc').2, Own.nil _ _ _, Own.nil _ _ _, fun r hr => (by cases hr), (mk.mono l49).own.seg⟩
        · rcases List.mem_append.1 hy with hy | hy
          · exact (hc.one y hy).keep (fun c o hcm ho' => l4649 c o (l46 c o ho' (hc.out c (List.mem_flatMap.2 ⟨y, hy, hcm⟩)).2.2)) fun r hr => (hmv r (List.mem_of_mem_take (hc.rows y hy r hr))).mono ubl49
          · exact (hb.one y hy).keep (fun c o _ ho' => l4649 c o ho') fun r hr => (hmv r (List.mem_of_mem_drop (hb.rows y hy r hr))).mono ubl49
      · rw [hown, List.nodup_cons]
        refine ⟨fun hm => (kall n49 hm).2.1 hn49, ?_⟩
        have o1 : ∀ o : Option Nat, o.toList.Nodup := fun o => by cases o <;> simp
        rw [List.nodup_append, List.nodup_append, List.nodup_append]
        refine ⟨⟨o1 _, by simp, fun a ha b hb' e => ?_⟩, ⟨hc.nodup, hb.nodup, fun a ha b hb' e => ?_⟩, fun a ha b hb' e => ?_⟩
        · rw [List.mem_singleton] at hb'
          rw [Option.mem_toList] at ha
          rw [← e] at hb'
          subst hb'
          obtain ⟨q1, q2⟩ := kl32 a ha
          exact kx hz46 q1 q2 hg
        · subst e
          obtain ⟨_, q2, q3⟩ := hc.out a ha
          exact q2 (zn (hb.out a hb').1 q3)
        · subst e
          simp only [List.mem_append, Option.mem_toList, List.mem_singleton] at ha hb'
          rcases ha with ha | rfl
          · obtain ⟨q1, q2⟩ := kl32 a ha
            rcases hb' with hb' | hb'
            · exact kx hzb q1 q2 (zbn (hc.out a hb').1 q2)
            · exact kx hz q1 q2 (zn (hb.out a hb').1 q2)
          · rcases hb' with hb' | hb'
            · obtain ⟨_, q2, q3⟩ := hc.out a hb'
              exact kx l46 q2 q3 hg
            · exact (hb.out a hb').2.1 hg
      · rw [hown] at hcm
        rcases List.mem_cons.1 hcm with rfl | hcm
        · exact ⟨(lub hz46).none (l48.none hn49), by rw [d49]; simp, srcU (l48.none hn49)⟩
        · obtain ⟨q1, q2, q3⟩ := kall c hcm
          exact ⟨q1, k49 q2, q3⟩
      · rw [PN.pt_eq, Pt.all_eq, hhd]
        show ([] ++ Pt.allL ([na, nb].map PN.pt)).Perm _
        rw [List.nil_append]
        show (na.pt.all ++ (nb.pt.all ++ [])).Perm _
        rw [List.append_nil]
        refine (hc.all.append hb.all).trans ?_
        rw [← List.map_append, List.take_append_drop]
        exact hp.map _
      · rw [PN.pt_eq]
        have hall : ∀ x, x ∈ (Pt.mk hd4.sh hd4.lo hd4.hi hd4.rad (hd4.rows.map Rw.pr) ([na, nb].map PN.pt)).all → x ∈ l.map Rw.pr := fun x hx => by
          rw [Pt.all_eq] at hx
          subst hhd
          have hx' : x ∈ [] ++ (na.pt.all ++ (nb.pt.all ++ [])) := hx
          rw [List.nil_append, List.append_nil] at hx'
          refine (hp.map Rw.pr).mem_iff.1 ?_
          rcases List.mem_append.1 hx' with hx' | hx'
          · obtain ⟨r, hr, rfl⟩ := List.mem_map.1 (hc.all.mem_iff.1 hx')
            exact List.mem_map_of_mem (List.mem_of_mem_take hr)
          · obtain ⟨r, hr, rfl⟩ := List.mem_map.1 (hb.all.mem_iff.1 hx')
            exact List.mem_map_of_mem (List.mem_of_mem_drop hr)
        subst hhd
        refine .mk (reg [] []) (fun x hx => ins [] [] x (hall x hx)) fun k hk => ?_
        have hk' : k ∈ [na.pt, nb.pt] := hk
        simp only [List.mem_cons, List.not_mem_nil, or_false] at hk'
        rcases hk' with rfl | rfl
        · exact hc.ok
        · exact hb.ok
      · rw [hheads] at hy
        rcases List.mem_cons.1 hy with rfl | hy
        · subst hhd; cases hr
        · rcases List.mem_append.1 hy with hy | hy
          · exact hp.mem_iff.1 (List.mem_of_mem_take (hc.rows y hy r hr))
          · exact hp.mem_iff.1 (List.mem_of_mem_drop (hb.rows y hy r hr))
      · rw [hheads, List.length_cons, List.length_append]
        have e1 := hc.size
        have e2 := hb.size
        omega
      · obtain ⟨st', hst'⟩ := hb.src
        exact ⟨st', l4649 _ _ hst'⟩
      · rw [PN.pt_eq, hhd]
        refine .mk rfl fun k hk => ?_
        have hk' : k ∈ [na.pt, nb.pt] := hk
        simp only [List.mem_cons, List.not_mem_nil, or_false] at hk'
        rcases hk' with rfl | rfl
        · exact hc.shp
        · exact hb.shp
      · refine bin_of (.inr rfl) fun k hk => ?_
        simp only [List.mem_cons, List.not_mem_nil, or_false] at hk
        rcases hk with rfl | rfl
        · exact hc.bin
        · exact hb.bin
    have z0 : ∀ c o, u32 c = some o → c ≠ src → u32 c = some o := fun _ _ h _ => h
    have left : ∀ {Q : Sl → H → Prop}, (∀ t z', OwnF u32 z' 43 2 t ((m.take mid).flatMap encR) → Q t z') → C.slices_Clone__api_Row_ (s.part 0 mid s.c 2) u32 Q := fun {Q} hQ =>
      spec.slices_Clone__api_Row_ (partL hRm).1 (by show mid - 0 ≤ _; omega) fun s' u' ho' _ => hQ s' u' ho'
    have first : ∀ {t z'} {Q : Option Addr → H → Prop}, OwnF u32 z' 43 2 t ((m.take mid).flatMap encR) → (∀ z na, CutS (H.no u32 src) z' src t (m.take mid) d z na → (∀ c o, u32 c = some o → c ≠ src → z c = some o) → Q (some ⟨na.b, 0, none⟩) z) → ClV Tryz.prog (cutV n0 n1) #[.slice t.a t.n t.c] [.one .ptr] z' Q := fun hot hQ =>
      recK z0 s32 hot hne1 (by omega) (List.take_sublist _ _) fun u' n hc hz => hQ u' n hc hz
    refine ⟨by decide, ⟨by omega, by omega⟩, ub, hubu, _, hin.c1, _, hin.c1, ?_, ?_⟩
    · refine slL ⟨hubu, left fun t z' hot => ⟨hubu.trans hot.le, ?_, ?_⟩, ?_⟩
      · exact first hot fun z na hc hz => ⟨lub hz, slR ⟨lub hz, second z0 hz hc⟩⟩
      · exact slR ⟨hubu.trans hot.le, first hot fun z na hc hz => ⟨lub hz, second z0 hz hc⟩⟩
      · exact slR ⟨hubu, left fun t z' hot => ⟨hubu.trans hot.le, first hot fun z na hc hz => ⟨lub hz, second z0 hz hc⟩⟩⟩
    · exact slR ⟨hubu, slL ⟨hubu, left fun t z' hot => ⟨hubu.trans hot.le, first hot fun z na hc hz => ⟨lub hz, second z0 hz hc⟩⟩⟩⟩

end Vp
end Go.Proofs.YtncgdoeobblnkaaGreat
