/- Texts of mine, joined by merge.py: VcVp0, VcMaps, VcVpD, VcOwn, VcVp1, VcVp2, VcPop, VcRest, VcWlk0, VcWlk1, VcWlk2, VcWlk3, VcWalkS, VcWlk4, VcWlk5. -/
import Derived.Test.YtbohcdjoglidhaaGreatDoorMra8
import Derived.Laws.NewFold
import Derived.Maps.RangeRun
set_option maxRecDepth 100000

/- VcVp0 -/
namespace Go.Proofs.YtbohcdjoglidhaaGreatDoor

theorem Rok.mix {l m : List Rw} {d : Int} (h : Rok l d) (hp : m.Perm l) : Rok m d :=
  ⟨h.dim, by rw [hp.length_eq]; exact h.len, fun r hr => h.id r (hp.mem_iff.1 hr), (hp.map _).nodup_iff.2 h.nodup, fun r hr => h.v r (hp.mem_iff.1 hr)⟩

theorem own_blk {u : H} {e k : Nat} {s : Sl} {xs : List Value} (h : Own u e k s xs) {g : Nat} (hg : s.blk = some g) : u g ≠ none := own_known h.f hg

def SrcAt (u : H) (src : Nat) : Prop := ∃ st, u src = some (.cells #[.int .u64 st] 134 (0, 0))

/-- All that is known but for one block. -/
def H.no (u : H) (b : Nat) : H := fun c => if c = b then none else u c
theorem no_at {u : H} {b c : Nat} (h : c ≠ b) : H.no u b c = u c := if_neg h
theorem no_self (u : H) (b : Nat) : H.no u b b = none := if_pos rfl
theorem no_le (u : H) (b : Nat) : (H.no u b).le u := fun c o h => by
  by_cases e : c = b
  · rw [e, no_self] at h; cases h
  · rw [no_at e] at h; exact h
theorem le_no {v u : H} {b : Nat} (h : v.le u) (hb : v b = none) : v.le (H.no u b) := fun c o hc => by
  rw [no_at (fun e => by rw [e, hb] at hc; cases hc)]; exact h c o hc

/-- What a cut of rows leaves: parts of their own; the source is at another place. -/
structure CutS (ub u : H) (src : Nat) (s : Sl) (l : List Rw) (d : Int) (u' : H) (n : PN) : Prop where
  one : ∀ x ∈ n.heads, PhAt u' x
  nodup : n.own.Nodup
  out : ∀ c ∈ n.own, ub c = none ∧ u' c ≠ none ∧ c ≠ src
  all : n.pt.all.Perm (l.map Rw.pr)
  ok : PtOk d n.pt
  rows : ∀ x ∈ n.heads, ∀ r ∈ x.1.rows, r ∈ l
  size : n.heads.length + 1 ≤ 2 * l.length
  else' : ∀ c o, u c = some o → s.blk ≠ some c → c ≠ src → u' c = some o
  src : SrcAt u' src
  shp : PtSh 3 n.pt
  bin : PtBin n.pt

namespace Vp
theorem bCut : hasBody Tryz.prog 46 = true := by kernel_rfl
theorem bFar : hasBody Tryz.prog 49 = true := by kernel_rfl
theorem bCmp : hasBody Tryz.prog 51 = true := by kernel_rfl
theorem build_kids (a b : Nat) : buildOf Tryz.prog 130 2 #[(0, .pointer (some ⟨a, 0, none⟩)), (1, .pointer (some ⟨b, 0, none⟩))] = some (101, [.pointer (some ⟨a, 0, none⟩), .pointer (some ⟨b, 0, none⟩)]) := by kernel_rfl

abbrev cutV (n0 n1 : Nat) : Value := .func (.func 46) #[] #[.pointer (some ⟨n0, 0, none⟩), .pointer (some ⟨n1, 0, none⟩)]
abbrev farV (n10 : Nat) : Value := .func (.func 49) #[] #[.pointer (some ⟨n10, 0, none⟩)]

/-- What a cut looks at. -/
structure CutIn (ub : H) (n0 n1 tb src : Nat) (leaf : Int) : Prop where
  c0 : ub.cell? ⟨n0, 0, none⟩ = some (.pointer (some ⟨tb, 0, none⟩))
  c1 : ub.cell? ⟨n1, 0, none⟩ = some (cutV n0 n1)
  tl : ub.cell? ((Addr.mk tb 0 none).add 1) = some (.int .i64 leaf)
  ts : ub.cell? ((Addr.mk tb 0 none).add 2) = some (.pointer (some ⟨src, 0, none⟩))

theorem CutIn.mono {ub u : H} {n0 n1 tb src : Nat} {leaf : Int} (h : CutIn ub n0 n1 tb src leaf) (k : ub.le u) : CutIn u n0 n1 tb src leaf := ⟨H.le.cell k h.c0, H.le.cell k h.c1, H.le.cell k h.tl, H.le.cell k h.ts⟩

/-- The nearer to the centre. -/
theorem cut_cmp {ub : H} {n10 n24 : Nat} {s8 : Sl} {c : List Int} {l : List Rw} {d : Int} (h24 : ub.cell? ⟨n24, 0, none⟩ = some (farV n10)) (h10 : ub.cell? ⟨n10, 0, none⟩ = some (.slice s8.a s8.n s8.c)) (h8 : Ints ub s8 c) (hc : vok c) (hcd : (c.length : Int) = d) (hd : 1 ≤ d) (hv : ∀ r ∈ l, Ints ub r.s r.v) (hok : Rok l d) :
    CmpOk ub l (.func (.func 51) #[] #[.pointer (some ⟨n24, 0, none⟩)]) := by
  intro a b v K ha hb hle hK
  refine ⟨_, _, _, rfl, bodyOf bCmp, vc.vptree_Tree__cut_1_2 a.id a.s b.id b.s ⟨n24, 0, none⟩ v K ?_⟩
  have c24 := H.le.cell hle h24
  have c10 := H.le.cell hle h10
  have v8 := h8.mono hle
  have far : ∀ {r : Rw} {Q : Int → Int → H → Prop}, r ∈ l → (∀ x y, U64 x → U64 y → Q x y v) → ClV Tryz.prog (farV n10) #[.agg #[.int .i64 r.id, .slice r.s.a r.s.n r.s.c]] [.agg [.int .u64, .int .u64]] v Q := fun {r Q} hr hQ => by
    obtain ⟨r1, r2⟩ := hok.v r hr
    exact ⟨_, _, _, rfl, bodyOf bFar, vc.vptree_Tree__cut_1_1 r.id r.s ⟨n10, 0, none⟩ v Q ⟨s8, c10, spec.vec_Dist v8 ((hv r hr).mono hle) hc (by omega) r2 (by omega) fun x y hx hy _ => hQ x y hx hy⟩⟩
  exact ⟨_, c24, _, c24, far ha fun x y hx hy => ⟨H.le.refl _, far hb fun x' y' hx' hy' => spec.wide_Cmp hy hy' (hK _)⟩⟩

theorem spec.cut1 {n0 n1 tb src : Nat} {d leaf : Int} (hlf : 1 ≤ leaf) : ∀ (N : Nat) {ub u : H} {s : Sl} {l : List Rw} {K : Option Addr → H → Prop}, l.length ≤ N → CutIn ub n0 n1 tb src leaf → ub src = none → SrcAt u src → s.blk ≠ some src → OwnF ub u 24 2 s (l.flatMap encR) → (∀ r ∈ l, Ints ub r.s r.v) → Rok l d →
    (l = [] → K none u) → (l ≠ [] → ∀ u' n, CutS ub u src s l d u' n → K (some ⟨n.b, 0, none⟩) u') → C.vptree_Tree__cut_1 s ⟨n0, 0, none⟩ ⟨n1, 0, none⟩ u K := by
  intro N
  induction N with
  | zero =>
    intro ub u s l K hN hin _ _ _ ho hv hok h0 _
    have hl : l = [] := List.eq_nil_of_length_eq_zero (by omega)
    have hsn : s.n = l.length := flat_n encR_len (by decide) ho.own.seg
    apply vc.vptree_Tree__cut_1
    refine ⟨fun _ => h0 hl, fun hne => absurd (by rw [hsn, hl]; rfl) hne⟩
  | succ N ih =>
    intro ub u s l K hN hin hus hsrc hss ho hv hok h0 hK
    have hsn : s.n = l.length := flat_n encR_len (by decide) ho.own.seg
    have hd := hok.dim
    have h512 := hok.len
    apply vc.vptree_Tree__cut_1
    refine ⟨fun hz => h0 (List.eq_nil_of_length_eq_zero (by omega)), fun hnz => ?_⟩
    have hne : l ≠ [] := fun e => hnz (by rw [hsn, e]; rfl)
    have hK := hK hne
    have hub := ho.le
    obtain ⟨st, hst⟩ := hsrc
    refine ⟨_, H.le.cell hub hin.c0, _, rfl, _, H.le.cell hub hin.ts, spec.rand_Below hst (by omega) (by omega) ?_⟩
    -- the source has gone on
    obtain ⟨u5, hu5⟩ : ∃ u5, u5 = u.ins src (.cells #[.int .u64 (nxS st)] 134 (0, 0)) := ⟨_, rfl⟩
    rw [← hu5]
    have s5 : u5 src = some (.cells #[.int .u64 (nxS st)] 134 (0, 0)) := by rw [hu5]; exact H.ins_same _ _ _
    have e5 : ∀ c o, u c = some o → c ≠ src → u5 c = some o := fun c o hc hne => by rw [hu5, H.ins_other _ _ hne]; exact hc
    have n5 : ∀ {c}, u5 c = none → u c = none := fun {c} hc => by
      by_cases e : c = src
      · rw [e, s5] at hc; cases hc
      · rw [hu5, H.ins_other _ _ e] at hc; exact hc
    have hub5 : ub.le u5 := fun c o hc => e5 c o (hub c o hc) fun e => by rw [e, hus] at hc; cases hc
    have ho5 : OwnF ub u5 24 2 s (l.flatMap encR) := ⟨ho.own.le fun c o hc hx => e5 c o hx fun e => hss (by rw [hc, e]), hub5, ho.fresh⟩
    have hR5 : Rws u5 s l := ⟨ho5.own.seg, fun r hr => (hv r hr).mono hub5⟩
    obtain ⟨at0, hat0⟩ : ∃ x, x = outS (nxS st) % (s.n : Int) := ⟨_, rfl⟩
    have a1 : 0 ≤ at0 := by rw [hat0]; exact Int.emod_nonneg _ (by omega)
    have a2 : at0 < s.n := by rw [hat0]; exact Int.emod_lt_of_pos _ (by omega)
    rw [← hat0]
    obtain ⟨p6, hp6, rc, hrc, _, c1, c2⟩ := hR5.at a1 a2
    have hrcm : rc ∈ l := List.mem_of_getElem? hrc
    obtain ⟨k1, k2⟩ := hok.v rc hrcm
    have krn := c2.len
    refine ⟨p6, hp6, ⟨a1, a2⟩, rc.s, c1, spec.slices_Clone___int_int_ c2 (by omega) fun s8 u9 ho8 _ => ?_⟩
    have le9 := ho8.le
    intro n10 hn10
    refine st_new (zs := [.slice none 0 0]) rfl (by simp [Value.oneCell']) ?_
    obtain ⟨u11, hu11⟩ : ∃ u11, u11 = u9.ins n10 (.cells [Value.slice s8.a s8.n s8.c].toArray 22 (0, 0)) := ⟨_, rfl⟩
    rw [← hu11]
    have l11 : u9.le u11 := by rw [hu11]; exact H.le_ins _ hn10
    have d10 : u11 n10 = some (.cells [Value.slice s8.a s8.n s8.c].toArray 22 (0, 0)) := by rw [hu11]; exact H.ins_same _ _ _
    have l511 : u5.le u11 := le9.trans l11
    have hR11 : Rws u11 s l := hR5.mono l511
    have h8 : Ints u11 s8 rc.v := ho8.ints.mono l11
    refine ⟨s8, H.cell?_of d10 0, spec.vec_Ball h8 k2 hR11 (by rw [k1]; exact hok) fun sl i18 u20 h1 => ?_⟩
    have le20 : u11.le u20 := h1.le
    obtain ⟨R, hR⟩ : ∃ R, R = radTo rc.v l l.length := ⟨_, rfl⟩
    rw [← hR]
    have Rok' : Dok R := by rw [hR]; exact radTo_ok k2 (by rw [k1]; exact hok) _ (Nat.le_refl _)
    have l520 : u5.le u20 := l511.trans le20
    have hubw : ub.le u20 := hub5.trans l520
    have s20 : u20 src = some (.cells #[.int .u64 (nxS st)] 134 (0, 0)) := l520 _ _ s5
    -- new blocks are not known before, nor the source's
    have fresh : ∀ {c}, u11 c = none → ub c = none ∧ c ≠ src ∧ s.blk ≠ some c := fun {c} hc => ⟨hub5.none (l511.none hc), (fun e => by
      have h9 := l511.none hc
      rw [e, s5] at h9
      cases h9), fun e => own_known ho5 e (l511.none hc)⟩
    have reg : ∀ rows kids, RegOk ((Pt.mk 3 rc.v [] R rows kids).rgn []) d := fun rows kids => ⟨hd, List.Pairwise.nil, fun x hx => (by cases hx), .inr (.inr ⟨rfl, rfl, k2, k1, Rok'⟩)⟩
    have ins : ∀ rows kids, ∀ z ∈ l.map Rw.pr, Inside ((Pt.mk 3 rc.v [] R rows kids).rgn []) z.2 := fun rows kids z hz => by
      obtain ⟨r, hr, rfl⟩ := List.mem_map.1 hz
      refine ⟨fun h => (by cases h), fun _ => ?_⟩
      obtain ⟨i, hi, hir⟩ := List.getElem_of_mem hr
      show sqTo rc.v r.v rc.v.length ≤ R
      rw [hR]
      exact (radTo_ge rc.v l l.length).2 i r hi (by rw [List.getElem?_eq_getElem hi, hir])
    have kl : ∀ g, sl.blk = some g → u20 g ≠ none := fun g hg => own_known h1 hg
    have fl : ∀ g, sl.blk = some g → u11 g = none := fun g hg => h1.fresh g hg
    have ks20 : ∀ g, s.blk = some g → u20 g ≠ none := fun g hg => own_known (ho5.mono l520) hg
    intro K21 h21
    have leafc : ∀ n31, u20 n31 = none → K (some ⟨n31, 0, none⟩) (u20.ins n31 (.cells #[.int .i64 3, .slice sl.a sl.n sl.c, .slice none 0 0, .int .u64 (hiW R), .int .u64 (loW R), .slice none 0 0, .slice s.a s.n s.c, .slice none 0 0] 132 (0, 0))) := by
      intro n31 hn31
      obtain ⟨hd31, hhd⟩ : ∃ hh : PH, hh = ⟨n31, 3, sl, ⟨none, 0, 0⟩, rc.v, [], R, s, l, ⟨none, 0, 0⟩⟩ := ⟨_, rfl⟩
      have l31 := H.le_ins (u := u20) (b := n31) (.cells (partC hd31).toArray 132 (0, 0)) hn31
      have key := hK (u20.ins n31 (.cells (partC hd31).toArray 132 (0, 0))) (.mk hd31 [])
      have hown : (PN.mk hd31 []).own = n31 :: (sl.blk.toList ++ s.blk.toList) := by
        rw [PN.own_eq, hhd]
        simp [PN.h, PN.kids, PH.blks, Sl.blk]
      have hcell : (Obj.cells #[.int .i64 3, .slice sl.a sl.n sl.c, .slice none 0 0, .int .u64 (hiW R), .int .u64 (loW R), .slice none 0 0, .slice s.a s.n s.c, .slice none 0 0] 132 (0, 0)) = .cells (partC hd31).toArray 132 (0, 0) := by rw [hhd]; rfl
      rw [hcell]
      have hb31 : (PN.mk hd31 []).b = n31 := by rw [hhd]; rfl
      rw [hb31] at key
      have f31 := fresh (le20.none hn31)
      refine key ⟨fun y hy => ?_, ?_, fun c hc => ?_, ?_, ?_, fun y hy r hr => ?_, ?_, fun c o hc hne' hcs => l31 c o (l520 c o (e5 c o hc hcs)), ⟨_, l31 _ _ s20⟩, by rw [PN.pt_eq, hhd]; exact .mk rfl fun k hk => (by cases hk), bin_of (.inl rfl) fun k hk => (by cases hk)⟩
      · rw [PN.heads_eq] at hy
        obtain rfl : y = (hd31, []) := by simpa [PN.h, PN.kids] using hy
        subst hhd
        exact ⟨H.ins_same _ _ _, (h1.mono l31).own, Own.nil _ _ _, ((ho5.mono l520).mono l31).own, fun r hr => (hv r hr).mono (hubw.trans l31), ⟨rfl, Nat.le_refl _, by show 0 ≤ 9223372036854775807; omega, .inl rfl⟩⟩
      · rw [hown, List.nodup_cons]
        refine ⟨fun hm => ?_, ?_⟩
        · simp only [List.mem_append, Option.mem_toList] at hm
          rcases hm with hm | hm
          · exact kl n31 hm hn31
          · exact ks20 n31 hm hn31
        · have o1 : ∀ o : Option Nat, o.toList.Nodup := fun o => by cases o <;> simp
          rw [List.nodup_append]
          refine ⟨o1 _, o1 _, fun a ha b hb e => ?_⟩
          rw [Option.mem_toList] at ha hb
          subst e
          exact (fresh (fl a ha)).2.2 hb
      · rw [hown] at hc
        simp only [List.mem_cons, List.mem_append, Option.mem_toList] at hc
        rcases hc with rfl | hc | hc
        · exact ⟨f31.1, by rw [H.ins_same]; simp, f31.2.1⟩
        · have := fresh (fl c hc)
          exact ⟨this.1, fun e => kl c hc (l31.none e), this.2.1⟩
        · exact ⟨ho.fresh c hc, fun e => ks20 c hc (l31.none e), fun e => hss (by rw [← e]; exact hc)⟩
      · rw [PN.pt_all, PN.heads_eq]
        subst hhd
        simp [PN.h, PN.kids]
      · rw [PN.pt_eq]
        subst hhd
        refine .mk (reg _ _) (fun z hz => ins _ _ z ?_) fun k hk => (by cases hk)
        rw [Pt.all_eq] at hz
        have hz' : z ∈ l.map Rw.pr ++ [] := hz
        rwa [List.append_nil] at hz'
      · rw [PN.heads_eq] at hy
        obtain rfl : y = (hd31, []) := by simpa [PN.h, PN.kids] using hy
        subst hhd
        exact hr
      · rw [PN.heads_eq]
        have := List.length_pos_iff.2 hne
        simp [PN.kids]
        omega
    refine ⟨_, H.le.cell hubw hin.c0, _, rfl, leaf, H.le.cell hubw hin.tl, fun _ => leafc, fun hgt => ⟨fun _ => leafc, fun _ => h21 none u20 fun n24 hn24 => ?_⟩⟩
    -- two kids
    refine st_new (zs := [.nilFunc]) rfl (by simp [Value.oneCell']) ?_
    obtain ⟨w, hw⟩ : ∃ w, w = u20.ins n24 (.cells [farV n10].toArray 140 (0, 0)) := ⟨_, rfl⟩
    rw [← hw]
    have l20w : u20.le w := by rw [hw]; exact H.le_ins _ hn24
    have d24 : w n24 = some (.cells [farV n10].toArray 140 (0, 0)) := by rw [hw]; exact H.ins_same _ _ _
    have d10w : w n10 = some (.cells [Value.slice s8.a s8.n s8.c].toArray 22 (0, 0)) := l20w _ _ (le20 _ _ d10)
    have l5w : u5.le w := l520.trans l20w
    have ubw : ub.le w := hubw.trans l20w
    have how : OwnF ub w 24 2 s (l.flatMap encR) := ho5.mono l5w
    have hsk : ∀ c, s.blk = some c → u5 c ≠ none := fun c hc => own_known ho5 hc
    obtain ⟨ubS, hubS⟩ : ∃ ubS : H, ubS = H.sans w s := ⟨_, rfl⟩
    have lS : ub.le ubS := fun c o hc => by
      rw [hubS, sans_at (fun e => by rw [ho.fresh c e] at hc; cases hc)]
      exact ubw c o hc
    have S24 : ubS n24 = w n24 := by rw [hubS]; exact sans_at fun e => hsk _ e (l520.none hn24)
    have S10 : ubS n10 = w n10 := by rw [hubS]; exact sans_at fun e => hsk _ e (le9.none hn10)
    have S8 : Ints ubS s8 rc.v := Seg.else (h8.mono (le20.trans l20w)) fun g o hg hx => by
      rw [hubS, sans_at (fun e => hsk _ e (ho8.fresh g hg))]
      exact hx
    refine spec.slices_SortStableFunc__api_Row_ how (by rw [hubS]; exact sans_le _ _) (fun b hb => by rw [hubS]; exact if_pos hb) (cut_cmp (n10 := n10) (by rw [d24] at S24; exact H.cell?_of S24 0) (by rw [d10w] at S10; exact H.cell?_of S10 0) S8 k2 k1 hd.1 (fun r hr => (hv r hr).mono lS) hok) (by omega) fun u32 m hp hom he32 => ?_
    have hml := hp.length_eq
    have hubu : ub.le u32 := fun c o hc => he32 c o (ubw c o hc) fun e => by have := ho.fresh c e; rw [hc] at this; cases this
    have s32 : SrcAt u32 src := ⟨_, he32 _ _ (l20w _ _ s20) hss⟩
    have hmok : Rok m d := hok.mix hp
    have hmv : ∀ r ∈ m, Ints ub r.s r.v := fun r hr => hv r (hp.mem_iff.1 hr)
    have hRm : Rws u32 s m := ⟨hom.own.seg, fun r hr => (hmv r hr).mono hubu⟩
    have hcap := Seg.cap hom.own.seg
    obtain ⟨mid, hmid⟩ : ∃ mid : Nat, mid = s.n / 2 := ⟨_, rfl⟩
    have emid : Int.tdiv (s.n : Int) 2 = (mid : Int) := by rw [Int.tdiv_eq_ediv_of_nonneg (by omega)]; omega
    rw [emid]
    have slL : ∀ {z : H} {Q : Sl → H → Prop}, Q (s.part 0 mid s.c 2) z → SemT Tryz.prog (Instr.sliceAt 43 (.slice s.a s.n s.c) none (some (.int .i64 (mid : Int))) none) [.one .slice] z Q := fun hQ =>
      sem_slice (P := Tryz.prog) tRows (l := 0) (h := mid) (m := s.c) (.inl ⟨rfl, rfl⟩) (.inr rfl) (.inl ⟨rfl, rfl⟩) (by omega) (by omega) (Nat.le_refl _) hcap hQ
    have slR : ∀ {z : H} {Q : Sl → H → Prop}, Q (s.part mid s.n s.c 2) z → SemT Tryz.prog (Instr.sliceAt 43 (.slice s.a s.n s.c) (some (.int .i64 (mid : Int))) none none) [.one .slice] z Q := fun hQ =>
      sem_slice (P := Tryz.prog) tRows (l := mid) (h := s.n) (m := s.c) (.inr rfl) (.inl ⟨rfl, rfl⟩) (.inl ⟨rfl, rfl⟩) (by omega) hcap (Nat.le_refl _) hcap hQ
    have hl1 : (m.take mid).length = mid := by rw [List.length_take]; omega
    have hl2 : (m.drop mid).length = m.length - mid := by rw [List.length_drop]
    have hne1 : m.take mid ≠ [] := fun e => by rw [e] at hl1; simp at hl1; omega
    have hne2 : m.drop mid ≠ [] := fun e => by rw [e] at hl2; simp at hl2; omega
    -- z: what is known later: all but the source's place
    have segS : ∀ {z : H}, (∀ c o, u32 c = some o → c ≠ src → z c = some o) → Rws z s m := fun {z} hz => ⟨Seg.else hom.own.seg fun c o hc hx => hz c o hx fun e => hss (by rw [hc, e]), fun r hr => (hmv r hr).mono fun c o hc => hz c o (hubu c o hc) fun e => by rw [e, hus] at hc; cases hc⟩
    have partL : ∀ {z : H}, Rws z s m → Rws z (s.part 0 mid s.c 2) (m.take mid) := fun hz => by
      have := hz.part (l := 0) (h := mid) (m := s.c) (by omega) (by omega) (by omega) (Nat.le_refl _)
      simpa using this
    have partR : ∀ {z : H}, Rws z s m → Rws z (s.part mid s.n s.c 2) (m.drop mid) := fun hz => by
      have := hz.part (l := mid) (h := s.n) (m := s.c) (by omega) (Nat.le_refl _) hcap (Nat.le_refl _)
      rwa [List.take_of_length_le (by rw [List.length_drop]; omega)] at this
    have lub : ∀ {z : H}, (∀ c o, u32 c = some o → c ≠ src → z c = some o) → ub.le z := fun hz c o hc => hz c o (hubu c o hc) fun e => by rw [e, hus] at hc; cases hc
    -- a kid is cut
    have recK : ∀ {z z' : H} {t : Sl} {k : List Rw} {Q : Option Addr → H → Prop}, (∀ c o, u32 c = some o → c ≠ src → z c = some o) → SrcAt z src → OwnF z z' 24 2 t (k.flatMap encR) → k ≠ [] → k.length ≤ N → k.Sublist m → (∀ u' n, CutS (H.no z src) z' src t k d u' n → (∀ c o, z c = some o → c ≠ src → u' c = some o) → Q (some ⟨n.b, 0, none⟩) u') →
        ClV Tryz.prog (cutV n0 n1) #[.slice t.a t.n t.c] [.one .ptr] z' Q := fun {z z' t k Q} hz hs hot hk hkN hkm hQ => by
      have lz : ub.le (H.no z src) := le_no (lub hz) hus
      obtain ⟨st', hst'⟩ := hs
      have hts : t.blk ≠ some src := fun e => by have := hot.fresh src e; rw [hst'] at this; cases this
      exact ⟨_, _, _, rfl, bodyOf bCut, ih hkN (hin.mono lz) (no_self _ _) ⟨st', hot.le _ _ hst'⟩ hts ⟨hot.own, (no_le _ _).trans hot.le, fun g hg => (no_le z src).none (hot.fresh g hg)⟩ (fun r hr => (hmv r (hkm.mem hr)).mono lz) (hmok.sub hkm) (fun e => absurd e hk) fun _ u' n hc => hQ u' n hc fun c o ho' hcs => hc.else' c o (hot.le c o ho') (fun e => by have := hot.fresh c e; rw [ho'] at this; cases this) hcs⟩
    have own1 : Own u32 3 1 sl (rc.v.flatMap encI) := (h1.mono l20w).own.le fun c o hc ho' => he32 c o ho' fun e => (fresh (fl c hc)).2.2 e
    -- behind the first kid
    have second : ∀ {z zb z1 : H} {t : Sl} {na : PN}, (∀ c o, u32 c = some o → c ≠ src → zb c = some o) → (∀ c o, zb c = some o → c ≠ src → z c = some o) → CutS (H.no zb src) z1 src t (m.take mid) d z na → C.slices_Clone__api_Row_ (s.part mid s.n s.c 2) z (fun (s43 : Sl) (u44 : H) => (H.le ub u44) ∧ (ClV Tryz.prog (cutV n0 n1) #[.slice s43.a s43.n s43.c] [.one .ptr] u44 (fun (p45 : Option Addr) (u46 : H) => (H.le ub u46) ∧ (SemT Tryz.prog (Instr.buildSlice 130 2 #[(0, .pointer (some ⟨na.b, 0, none⟩)), (1, .pointer p45)]) [.one .slice] u46 (fun (s47 : Sl) (u48 : H) => (H.le ub u48) ∧ (∀ n49 : Nat, (u48 n49 = none) → K (some ⟨n49, 0, none⟩) (u48.ins n49 (.cells #[.int .i64 3, .slice sl.a sl.n sl.c, .slice none 0 0, .int .u64 (hiW R), .int .u64 (loW R), .slice none 0 0, .slice none 0 0, .slice s47.a s47.n s47.c] 132 (0, 0))))))))) := by
      intro z zb z1 t na hzb hzz hc
      have hz : ∀ c o, u32 c = some o → c ≠ src → z c = some o := fun c o h1 h2 => hzz c o (hzb c o h1 h2) h2
      have lubz := lub hz
      refine spec.slices_Clone__api_Row_ (partR (segS hz)).1 (by show s.n - mid ≤ _; omega) fun s43 u44 ho44 _ => ⟨lubz.trans ho44.le, recK hz hc.src ho44 hne2 (by omega) (List.drop_sublist _ _) fun u46 nb hb l46 => ?_⟩
      have hz46 : ∀ c o, u32 c = some o → c ≠ src → u46 c = some o := fun c o h1 h2 => l46 c o (hz c o h1 h2) h2
      refine ⟨lub hz46, ?_⟩
      refine sem_build (build_kids na.b nb.b) fun g hg => ?_
      have l48 := H.le_ins (u := u46) (b := g) (.cells [Value.pointer (some ⟨na.b, 0, none⟩), .pointer (some ⟨nb.b, 0, none⟩)].toArray 101 (0, 0)) hg
      have mk := OwnF.make (k := 1) (H.le.refl u46) hg (cells := [Value.pointer (some ⟨na.b, 0, none⟩), .pointer (some ⟨nb.b, 0, none⟩)].toArray) (e := 101) (n := 2) (by omega) rfl
      obtain ⟨u48, hu48⟩ : ∃ u48, u48 = u46.ins g (.cells [Value.pointer (some ⟨na.b, 0, none⟩), .pointer (some ⟨nb.b, 0, none⟩)].toArray 101 (0, 0)) := ⟨_, rfl⟩
      have hg48 : u48 g ≠ none := by rw [hu48, H.ins_same]; simp
      rw [← hu48] at l48 mk ⊢
      refine ⟨(lub hz46).trans l48, fun n49 hn49 => ?_⟩
      obtain ⟨hd4, hhd⟩ : ∃ hh : PH, hh = ⟨n49, 3, sl, ⟨none, 0, 0⟩, rc.v, [], R, ⟨none, 0, 0⟩, [], ⟨some ⟨g, 0, none⟩, 2, 2⟩⟩ := ⟨_, rfl⟩
      have hcell : (Obj.cells #[.int .i64 3, .slice sl.a sl.n sl.c, .slice none 0 0, .int .u64 (hiW R), .int .u64 (loW R), .slice none 0 0, .slice none 0 0, .slice (some ⟨g, 0, none⟩) 2 2] 132 (0, 0)) = .cells (partC hd4).toArray 132 (0, 0) := by rw [hhd]; rfl
      show K (some ⟨n49, 0, none⟩) (u48.ins n49 (Obj.cells #[.int .i64 3, .slice sl.a sl.n sl.c, .slice none 0 0, .int .u64 (hiW R), .int .u64 (loW R), .slice none 0 0, .slice none 0 0, .slice (some ⟨g, 0, none⟩) 2 2] 132 (0, 0)))
      rw [hcell]
      have l49 := H.le_ins (u := u48) (b := n49) (.cells (partC hd4).toArray 132 (0, 0)) hn49
      obtain ⟨u49, hu49⟩ : ∃ u49, u49 = u48.ins n49 (.cells (partC hd4).toArray 132 (0, 0)) := ⟨_, rfl⟩
      have key := hK u49 (.mk hd4 [na, nb])
      have d49 : u49 n49 = some (.cells (partC hd4).toArray 132 (0, 0)) := by rw [hu49]; exact H.ins_same _ _ _
      rw [← hu49] at l49 ⊢
      have hb4 : (PN.mk hd4 [na, nb]).b = n49 := by rw [hhd]; rfl
      rw [hb4] at key
      have l4649 : u46.le u49 := l48.trans l49
      have x3249 : ∀ c o, u32 c = some o → c ≠ src → u49 c = some o := fun c o h1 h2 => l4649 c o (hz46 c o h1 h2)
      have ubl49 := lub x3249
      have kl32 : ∀ c, sl.blk = some c → u32 c ≠ none ∧ c ≠ src := fun c hc => ⟨own_blk own1 hc, (fresh (fl c hc)).2.1⟩
      have kx : ∀ {a b : H}, (∀ c o, a c = some o → c ≠ src → b c = some o) → ∀ {c}, a c ≠ none → c ≠ src → b c ≠ none := fun {a b} h {c} hc hs => by
        obtain ⟨o, ho'⟩ := Option.ne_none_iff_exists'.1 hc
        rw [h c o ho' hs]; simp
      have k48 : ∀ {c}, u46 c ≠ none → u48 c ≠ none := fun hc e => hc (l48.none e)
      have k49 : ∀ {c}, u48 c ≠ none → u49 c ≠ none := fun hc e => hc (l49.none e)
      have srcU : ∀ {c}, u46 c = none → c ≠ src := fun hc e => by
        obtain ⟨st', hst'⟩ := hb.src
        rw [e, hst'] at hc; cases hc
      have zbn : ∀ {c}, H.no zb src c = none → c ≠ src → zb c = none := fun h hs => by rw [no_at hs] at h; exact h
      have zn : ∀ {c}, H.no z src c = none → c ≠ src → z c = none := fun h hs => by rw [no_at hs] at h; exact h
      have ubn : ∀ {z : H}, ub.le z → ∀ {c}, z c = none → ub c = none := fun {_} h {_} hc => H.le.none h hc
      have hown : (PN.mk hd4 [na, nb]).own = n49 :: ((sl.blk.toList ++ [g]) ++ (na.own ++ nb.own)) := by
        rw [PN.own_eq, hhd]
        simp [PN.h, PN.kids, PH.blks, Sl.blk]
      have hheads : (PN.mk hd4 [na, nb]).heads = (hd4, [na.b, nb.b]) :: (na.heads ++ nb.heads) := by
        rw [PN.heads_eq]
        simp [PN.h, PN.kids]
      have kall : ∀ c ∈ (sl.blk.toList ++ [g]) ++ (na.own ++ nb.own), ub c = none ∧ u48 c ≠ none ∧ c ≠ src := fun c hcm => by
        simp only [List.mem_append, Option.mem_toList, List.mem_singleton] at hcm
        rcases hcm with (hcm | rfl) | hcm | hcm
        · obtain ⟨q1, q2⟩ := kl32 c hcm
          exact ⟨(fresh (fl c hcm)).1, k48 (kx hz46 q1 q2), q2⟩
        · exact ⟨(lub hz46).none hg, hg48, srcU hg⟩
        · obtain ⟨q1, q2, q3⟩ := hc.out c hcm
          exact ⟨ubn (lub hzb) (zbn q1 q3), k48 (kx l46 q2 q3), q3⟩
        · obtain ⟨q1, q2, q3⟩ := hb.out c hcm
          exact ⟨ubn lubz (zn q1 q3), k48 q2, q3⟩
      refine key ⟨fun y hy => ?_, ?_, fun c hcm => ?_, ?_, ?_, fun y hy r hr => ?_, ?_, fun c o hcu hne' hcs => x3249 c o (he32 c o (l5w c o (e5 c o hcu hcs)) hne') hcs, ?_, ?_, ?_⟩
      · rw [hheads] at hy
        rcases List.mem_cons.1 hy with rfl | hy
        · subst hhd
          exact ⟨d49, own1.le fun c o hc' ho' => x3249 c o ho' (kl32 c hc').2, Own.nil _ _ _, Own.nil _ _ _, fun r hr => (by cases hr), (mk.mono l49).own.seg⟩
        · rcases List.mem_append.1 hy with hy | hy
          · exact (hc.one y hy).keep (fun c o hcm ho' => l4649 c o (l46 c o ho' (hc.out c (List.mem_flatMap.2 ⟨y, hy, hcm⟩)).2.2)) fun r hr => (hmv r (List.mem_of_mem_take (hc.rows y hy r hr))).mono ubl49
          · exact (hb.one y hy).keep (fun c o _ ho' => l4649 c o ho') fun r hr => (hmv r (List.mem_of_mem_drop (hb.rows y hy r hr))).mono ubl49
      · rw [hown, List.nodup_cons]
        refine ⟨fun hm => (kall n49 hm).2.1 hn49, ?_⟩
        have o1 : ∀ o : Option Nat, o.toList.Nodup := fun o => by cases o <;> simp
        rw [List.nodup_append, List.nodup_append, List.nodup_append]
        refine ⟨⟨o1 _, by simp, fun a ha b hb' e => ?_⟩, ⟨hc.nodup, hb.nodup, fun a ha b hb' e => ?_⟩, fun a ha b hb' e => ?_⟩
        · rw [List.mem_singleton] at hb'
          rw [Option.mem_toList] at ha
          rw [← e] at hb'
          subst hb'
          obtain ⟨q1, q2⟩ := kl32 a ha
          exact kx hz46 q1 q2 hg
        · subst e
          obtain ⟨_, q2, q3⟩ := hc.out a ha
          exact q2 (zn (hb.out a hb').1 q3)
        · subst e
          simp only [List.mem_append, Option.mem_toList, List.mem_singleton] at ha hb'
          rcases ha with ha | rfl
          · obtain ⟨q1, q2⟩ := kl32 a ha
            rcases hb' with hb' | hb'
            · exact kx hzb q1 q2 (zbn (hc.out a hb').1 q2)
            · exact kx hz q1 q2 (zn (hb.out a hb').1 q2)
          · rcases hb' with hb' | hb'
            · obtain ⟨_, q2, q3⟩ := hc.out a hb'
              exact kx l46 q2 q3 hg
            · exact (hb.out a hb').2.1 hg
      · rw [hown] at hcm
        rcases List.mem_cons.1 hcm with rfl | hcm
        · exact ⟨(lub hz46).none (l48.none hn49), by rw [d49]; simp, srcU (l48.none hn49)⟩
        · obtain ⟨q1, q2, q3⟩ := kall c hcm
          exact ⟨q1, k49 q2, q3⟩
      · rw [PN.pt_eq, Pt.all_eq, hhd]
        show ([] ++ Pt.allL ([na, nb].map PN.pt)).Perm _
        rw [List.nil_append]
        show (na.pt.all ++ (nb.pt.all ++ [])).Perm _
        rw [List.append_nil]
        refine (hc.all.append hb.all).trans ?_
        rw [← List.map_append, List.take_append_drop]
        exact hp.map _
      · rw [PN.pt_eq]
        have hall : ∀ x, x ∈ (Pt.mk hd4.sh hd4.lo hd4.hi hd4.rad (hd4.rows.map Rw.pr) ([na, nb].map PN.pt)).all → x ∈ l.map Rw.pr := fun x hx => by
          rw [Pt.all_eq] at hx
          subst hhd
          have hx' : x ∈ [] ++ (na.pt.all ++ (nb.pt.all ++ [])) := hx
          rw [List.nil_append, List.append_nil] at hx'
          refine (hp.map Rw.pr).mem_iff.1 ?_
          rcases List.mem_append.1 hx' with hx' | hx'
          · obtain ⟨r, hr, rfl⟩ := List.mem_map.1 (hc.all.mem_iff.1 hx')
            exact List.mem_map_of_mem (List.mem_of_mem_take hr)
          · obtain ⟨r, hr, rfl⟩ := List.mem_map.1 (hb.all.mem_iff.1 hx')
            exact List.mem_map_of_mem (List.mem_of_mem_drop hr)
        subst hhd
        refine .mk (reg [] []) (fun x hx => ins [] [] x (hall x hx)) fun k hk => ?_
        have hk' : k ∈ [na.pt, nb.pt] := hk
        simp only [List.mem_cons, List.not_mem_nil, or_false] at hk'
        rcases hk' with rfl | rfl
        · exact hc.ok
        · exact hb.ok
      · rw [hheads] at hy
        rcases List.mem_cons.1 hy with rfl | hy
        · subst hhd; cases hr
        · rcases List.mem_append.1 hy with hy | hy
          · exact hp.mem_iff.1 (List.mem_of_mem_take (hc.rows y hy r hr))
          · exact hp.mem_iff.1 (List.mem_of_mem_drop (hb.rows y hy r hr))
      · rw [hheads, List.length_cons, List.length_append]
        have e1 := hc.size
        have e2 := hb.size
        omega
      · obtain ⟨st', hst'⟩ := hb.src
        exact ⟨st', l4649 _ _ hst'⟩
      · rw [PN.pt_eq, hhd]
        refine .mk rfl fun k hk => ?_
        have hk' : k ∈ [na.pt, nb.pt] := hk
        simp only [List.mem_cons, List.not_mem_nil, or_false] at hk'
        rcases hk' with rfl | rfl
        · exact hc.shp
        · exact hb.shp
      · refine bin_of (.inr rfl) fun k hk => ?_
        simp only [List.mem_cons, List.not_mem_nil, or_false] at hk
        rcases hk with rfl | rfl
        · exact hc.bin
        · exact hb.bin
    have z0 : ∀ c o, u32 c = some o → c ≠ src → u32 c = some o := fun _ _ h _ => h
    have left : ∀ {Q : Sl → H → Prop}, (∀ t z', OwnF u32 z' 24 2 t ((m.take mid).flatMap encR) → Q t z') → C.slices_Clone__api_Row_ (s.part 0 mid s.c 2) u32 Q := fun {Q} hQ =>
      spec.slices_Clone__api_Row_ (partL hRm).1 (by show mid - 0 ≤ _; omega) fun s' u' ho' _ => hQ s' u' ho'
    have first : ∀ {t z'} {Q : Option Addr → H → Prop}, OwnF u32 z' 24 2 t ((m.take mid).flatMap encR) → (∀ z na, CutS (H.no u32 src) z' src t (m.take mid) d z na → (∀ c o, u32 c = some o → c ≠ src → z c = some o) → Q (some ⟨na.b, 0, none⟩) z) → ClV Tryz.prog (cutV n0 n1) #[.slice t.a t.n t.c] [.one .ptr] z' Q := fun hot hQ =>
      recK z0 s32 hot hne1 (by omega) (List.take_sublist _ _) fun u' n hc hz => hQ u' n hc hz
    refine ⟨by decide, ⟨by omega, by omega⟩, ub, hubu, _, hin.c1, _, hin.c1, ?_, ?_⟩
    · refine slL ⟨hubu, left fun t z' hot => ⟨hubu.trans hot.le, ?_, ?_⟩, ?_⟩
      · exact first hot fun z na hc hz => ⟨lub hz, slR ⟨lub hz, second z0 hz hc⟩⟩
      · exact slR ⟨hubu.trans hot.le, first hot fun z na hc hz => ⟨lub hz, second z0 hz hc⟩⟩
      · exact slR ⟨hubu, left fun t z' hot => ⟨hubu.trans hot.le, first hot fun z na hc hz => ⟨lub hz, second z0 hz hc⟩⟩⟩
    · exact slR ⟨hubu, slL ⟨hubu, left fun t z' hot => ⟨hubu.trans hot.le, first hot fun z na hc hz => ⟨lub hz, second z0 hz hc⟩⟩⟩⟩

end Vp
end Go.Proofs.YtbohcdjoglidhaaGreatDoor

/- VcMaps -/
namespace Go.Proofs.YtbohcdjoglidhaaGreatDoor

/-- What an entry tells. -/
def MapEntry.kv (e : MapEntry) : Value × Value := (e.key, e.val)
def kvOf (p : Int × Value) : Value × Value := (.int .i64 p.1, p.2)

theorem kvOf_inj {p q : Int × Value} (h : kvOf p = kvOf q) : p = q := by
  cases p; cases q
  simp only [kvOf, Prod.mk.injEq, Value.int.injEq, true_and] at h
  obtain ⟨h1, h2⟩ := h
  subst h1; subst h2; rfl

/-- A map's entries: their keys and values in the order of their births. -/
structure Ents (es : Array MapEntry) (clock : Nat) (l : List (Int × Value)) : Prop where
  kv : es.toList.map MapEntry.kv = l.map kvOf
  born : (es.toList.map (·.born)).Nodup
  lt : ∀ e ∈ es.toList, e.born < clock
  nodup : (l.map (·.1)).Nodup

def MapAt (u : H) (b : Nat) (l : List (Int × Value)) : Prop := ∃ es clock, u b = some (.map es clock) ∧ Ents es clock l

theorem MapAt.mono {u u' : H} {b : Nat} {l : List (Int × Value)} (h : MapAt u b l) (hu : u.le u') : MapAt u' b l := by
  obtain ⟨es, c, h1, h2⟩ := h
  exact ⟨es, c, hu _ _ h1, h2⟩

theorem MapAt.else {u u' : H} {b : Nat} {l : List (Int × Value)} (h : MapAt u b l) (hu : ∀ o, u b = some o → u' b = some o) : MapAt u' b l := by
  obtain ⟨es, c, h1, h2⟩ := h
  exact ⟨es, c, hu _ h1, h2⟩

def getL (l : List (Int × Value)) (x : Int) : Option Value := (l.find? fun p => p.1 == x).map (·.2)

theorem getL_mem {l : List (Int × Value)} {x : Int} {v : Value} (h : getL l x = some v) : (x, v) ∈ l := by
  unfold getL at h
  cases hf : l.find? fun p => p.1 == x with
  | none => rw [hf] at h; cases h
  | some p =>
    rw [hf] at h
    have h1 := List.find?_some hf
    have h2 := List.mem_of_find?_eq_some hf
    simp only [Option.map_some, Option.some.injEq] at h
    have : p.1 = x := by simpa using h1
    rw [← this, ← h]
    exact h2

theorem getL_none {l : List (Int × Value)} {x : Int} : getL l x = none ↔ x ∉ l.map (·.1) := by
  unfold getL
  rw [Option.map_eq_none_iff, List.find?_eq_none]
  simp only [beq_iff_eq, List.mem_map, Prod.exists, exists_and_right, exists_eq_right, not_exists, Prod.forall]
  exact ⟨fun h v hm => h x v hm rfl, fun h a b hm e => h b (e ▸ hm)⟩

theorem findNow_get (x : Int) : ∀ (es : List MapEntry) (l : List (Int × Value)) (i : Nat), es.map MapEntry.kv = l.map kvOf →
    (getL l x = none → Instr.findNow (.int .i64) (.int .i64 x) es i = some none) ∧ (∀ v, getL l x = some v → ∃ j, Instr.findNow (.int .i64) (.int .i64 x) es i = some (some (i + j, v)) ∧ l[j]? = some (x, v)) := by
  intro es
  induction es with
  | nil =>
    intro l i h
    have : l = [] := by simpa using h.symm
    subst this
    exact ⟨fun _ => rfl, fun v hv => (by simp [getL] at hv)⟩
  | cons e es ih =>
    intro l i h
    cases l with
    | nil => simp at h
    | cons y l =>
      simp only [List.map_cons, List.cons.injEq, MapEntry.kv, kvOf, Prod.mk.injEq] at h
      obtain ⟨⟨hk, hv⟩, hr⟩ := h
      obtain ⟨i1, i2⟩ := ih l (i + 1) hr
      unfold Instr.findNow
      rw [hk, hv]
      simp only [Instr.sameNow, if_true]
      by_cases hxy : y.1 = x
      · have hb : (x == y.1) = true := by simpa using hxy.symm
        have hg : getL (y :: l) x = some y.2 := by simp [getL, hxy]
        rw [hb, hg]
        refine ⟨fun h => (by cases h), fun v hv => ⟨0, ?_, ?_⟩⟩
        · cases hv; rfl
        · cases hv; simp [← hxy]
      · have hb : (x == y.1) = false := by simpa using fun h => hxy h.symm
        have hg : getL (y :: l) x = getL l x := by
          have : (y.1 == x) = false := by simpa using hxy
          simp [getL, this]
        rw [hb, hg]
        refine ⟨i1, fun v hv => ?_⟩
        obtain ⟨j, h1, h2⟩ := i2 v hv
        exact ⟨j + 1, by rw [h1, show i + 1 + j = i + (j + 1) by omega], by simpa using h2⟩

structure MapTy (P : Program) (t k e : TypeId) (z : Value) : Prop where
  ty : P.underlying t = some (.map k e)
  key : P.underlying k = some (.int .i64)
  zero : ∀ w, (zeroValue e).run P w = .ok z w

theorem MapTy.check {P : Program} {t k e : TypeId} {z : Value} (T : MapTy P t k e z) (b : Bool) (x : Int) (w : World) : (Instr.checkKey b 10000 k (.int .i64 x)).run P w = .ok () w := by
  show (Instr.checkKey b (9999 + 1) k (.int .i64 x)).run P w = .ok () w
  unfold Instr.checkKey
  simp [Sem.run_bind, run_underlying T.key, Result.andThen]

theorem MapTy.find {P : Program} {t k e : TypeId} {z : Value} (T : MapTy P t k e z) {es : Array MapEntry} {l : List (Int × Value)} (h : es.toList.map MapEntry.kv = l.map kvOf) (x : Int) (w : World) :
    (getL l x = none → (Instr.findKey k (.int .i64 x) es.toList).run P w = .ok none w) ∧ (∀ v, getL l x = some v → ∃ j, (Instr.findKey k (.int .i64 x) es.toList).run P w = .ok (some (j, v)) w ∧ l[j]? = some (x, v)) := by
  obtain ⟨h1, h2⟩ := findNow_get x es.toList l 0 h
  constructor
  · intro hx
    simp [Instr.findKey, Sem.run_bind, run_underlying T.key, Result.andThen, h1 hx]
  · intro v hv
    obtain ⟨j, hj, hl⟩ := h2 v hv
    rw [Nat.zero_add] at hj
    exact ⟨j, by simp [Instr.findKey, Sem.run_bind, run_underlying T.key, Result.andThen, hj], hl⟩

theorem SemT.two' {P : Program} {m : Sem Value} {c d : CT} {u : H} {K : c.den → d.den → H → Prop} (x : c.den) (y : d.den) (h : ∀ w, Sub u w → m.run P w = .ok (.tuple #[c.enc x, d.enc y]) w) (hK : K x y u) : SemT P m [.one c, .one d] u K := by
  intro w hw
  exact ⟨_, w, u, h w hw, ⟨[c.enc x, d.enc y], .cons x (.cons y .nil), rfl, (CT.un_enc c x _).2 ((CT.un_enc d y _).2 hK)⟩, Step.refl hw⟩

theorem sem_get2 {P : Program} {t k e : TypeId} {z : Value} (T : MapTy P t k e z) {u : H} {b : Nat} {l : List (Int × Value)} (h : MapAt u b l) {x : Int} {ct : CT} (y : ct.den) (hy : (getL l x).getD z = ct.enc y) {K : ct.den → Bool → H → Prop} (hK : K y (getL l x).isSome u) :
    SemT P (Instr.lookup t (.map (some b)) (.int .i64 x) true) [.one ct, .one .bool] u K := by
  obtain ⟨es, c, hb, hl⟩ := h
  refine SemT.two' (c := ct) (d := .bool) y _ (fun w hw => ?_) hK
  have hg := MapKept.run_getObj_map (P := P) (hw _ _ hb)
  have hc := T.check es.isEmpty x w
  obtain ⟨f1, f2⟩ := T.find hl.kv x w
  cases hx : getL l x with
  | none =>
    rw [hx] at hy
    have hy' : z = ct.enc y := hy
    simp [Instr.lookup, Sem.run_bind, run_underlying T.ty, hg, hc, f1 hx, Result.andThen, T.zero, hy', CT.enc]
  | some v =>
    rw [hx] at hy
    have hy' : v = ct.enc y := hy
    obtain ⟨j, hj, _⟩ := f2 v hx
    simp [Instr.lookup, Sem.run_bind, run_underlying T.ty, hg, hc, hj, Result.andThen, hy', CT.enc]

theorem sem_put {P : Program} {t k e : TypeId} {z : Value} (T : MapTy P t k e z) {u : H} {b : Nat} {l : List (Int × Value)} (h : MapAt u b l) {x : Int} {v : Value} (hx : getL l x = none) {K : H → Prop}
    (hK : ∀ o, MapAt (u.ins b o) b (l ++ [(x, v)]) → K (u.ins b o)) :
    SemT P (unit (Instr.mapUpdate t (.map (some b)) (.int .i64 x) v)) [] u K := by
  obtain ⟨es, c, hb, hl⟩ := h
  intro w hw
  have hg := MapKept.run_getObj_map (P := P) (hw _ _ hb)
  have hj := (T.find hl.kv x w).1 hx
  have hc := T.check false x w
  have hset := MapKept.run_setObj_map (P := P) (.map (es.push { key := .int .i64 x, val := v, born := c }) (c + 1)) (hw _ _ hb)
  refine ⟨_, _, u.ins b (.map (es.push { key := .int .i64 x, val := v, born := c }) (c + 1)), ?_, ⟨[], .nil, rfl, hK _ ⟨_, _, H.ins_same _ _ _, ?_, ?_, ?_, ?_⟩⟩, step_block hw hb _⟩
  · simp [unit, Instr.mapUpdate, Sem.run_bind, run_underlying T.ty, hg, hc, hj, Result.andThen, hset]
    rfl
  · simp [hl.kv, MapEntry.kv, kvOf]
  · rw [Array.toList_push, List.map_append]
    refine List.nodup_append.2 ⟨hl.born, by simp, fun a ha d hd => ?_⟩
    obtain ⟨e', he, rfl⟩ := List.mem_map.1 ha
    have := hl.lt e' he
    simp only [List.map_cons, List.map_nil, List.mem_singleton] at hd
    omega
  · intro e' he
    rw [Array.toList_push] at he
    rcases List.mem_append.1 he with he | he
    · have := hl.lt e' he; omega
    · obtain rfl : e' = _ := by simpa using he
      exact Nat.lt_succ_self c
  · rw [List.map_append]
    refine List.nodup_append.2 ⟨hl.nodup, by simp, fun a ha d hd => ?_⟩
    have := getL_none.1 hx
    simp only [List.map_cons, List.map_nil, List.mem_singleton] at hd
    exact fun e => this (by rw [← hd, ← e]; exact ha)

theorem erase_filter {l : List (Int × Value)} (hn : (l.map (·.1)).Nodup) {j : Nat} {x : Int} {v : Value} (h : l[j]? = some (x, v)) : l.eraseIdx j = l.filter fun p => p.1 != x := by
  induction l generalizing j with
  | nil => simp at h
  | cons p l ih =>
    have h3 := List.nodup_cons.1 hn
    cases j with
    | zero =>
      simp only [List.getElem?_cons_zero, Option.some.injEq] at h
      subst h
      have : l.filter (fun p => p.1 != x) = l := List.filter_eq_self.2 fun q hq => by
        have : q.1 ≠ x := fun e => h3.1 (List.mem_map.2 ⟨q, hq, e⟩)
        simpa using this
      simp [this]
    | succ j =>
      simp only [List.getElem?_cons_succ] at h
      have hp : p.1 ≠ x := fun e => h3.1 (List.mem_map.2 ⟨_, List.mem_of_getElem? h, e.symm⟩)
      rw [List.eraseIdx_cons_succ, ih h3.2 h, List.filter_cons_of_pos (by simpa using hp)]

theorem sem_del {P : Program} {t k e T' kT : TypeId} {z : Value} (T : MapTy P t k e z) {u : H} {b : Nat} {l : List (Int × Value)} (h : MapAt u b l) {x : Int} {K : H → Prop}
    (hK : ∀ o, MapAt (u.ins b o) b (l.filter fun p => p.1 != x) → K (u.ins b o)) :
    SemT P (Builtin.delete_ #[t, kT] T' #[.map (some b), .int .i64 x]) [] u K := by
  obtain ⟨es, c, hb, hl⟩ := h
  intro w hw
  have hg := MapKept.run_getObj_map (P := P) (hw _ _ hb)
  have hc := T.check es.isEmpty x w
  obtain ⟨f1, f2⟩ := T.find hl.kv x w
  cases hx : getL l x with
  | none =>
    have hset := MapKept.run_setObj_map (P := P) (.map es c) (hw _ _ hb)
    have hf : l.filter (fun p => p.1 != x) = l := List.filter_eq_self.2 fun q hq => by
      have : q.1 ≠ x := fun e => getL_none.1 hx (List.mem_map.2 ⟨q, hq, e⟩)
      simpa using this
    refine ⟨_, _, u.ins b (.map es c), ?_, ⟨[], .nil, rfl, hK _ ⟨_, _, H.ins_same _ _ _, by rw [hf]; exact hl⟩⟩, step_block hw hb _⟩
    simp [Builtin.delete_, Sem.run_bind, run_underlying T.ty, hg, hc, f1 hx, Result.andThen, hset]
    rfl
  | some v =>
    obtain ⟨j, hj, hlj⟩ := f2 v hx
    have hset := MapKept.run_setObj_map (P := P) (.map (es.eraseIdxIfInBounds j) c) (hw _ _ hb)
    have het : (es.eraseIdxIfInBounds j).toList = es.toList.eraseIdx j := by simp
    have hsub : (es.toList.eraseIdx j).Sublist es.toList := List.eraseIdx_sublist _ _
    refine ⟨_, _, u.ins b (.map (es.eraseIdxIfInBounds j) c), ?_, ⟨[], .nil, rfl, hK _ ⟨_, _, H.ins_same _ _ _, ?_, ?_, ?_, ?_⟩⟩, step_block hw hb _⟩
    · simp [Builtin.delete_, Sem.run_bind, run_underlying T.ty, hg, hc, hj, Result.andThen, hset]
      rfl
    · have key : ∀ {α β : Type} (f : α → β) (L : List α) (j : Nat), (L.eraseIdx j).map f = (L.map f).eraseIdx j := by
        intro α β f L
        induction L with
        | nil => intro j; rfl
        | cons a L ih => intro j; cases j with
          | zero => rfl
          | succ j => simp [ih j]
      rw [het, key, hl.kv, ← key, erase_filter hl.nodup hlj]
    · rw [het]; exact hl.born.sublist (hsub.map _)
    · intro e' he; rw [het] at he; exact hl.lt e' (hsub.mem he)
    · exact hl.nodup.sublist (List.Sublist.map _ List.filter_sublist)

theorem sem_maplen {P : Program} {t k e T' : TypeId} {z : Value} (T : MapTy P t k e z) {u : H} {b : Nat} {l : List (Int × Value)} (h : MapAt u b l) {K : Int → H → Prop} (hK : K l.length u) :
    SemT P (Builtin.len_ #[t] T' #[.map (some b)]) [.one (.int .i64)] u K := by
  obtain ⟨es, c, hb, hl⟩ := h
  have hlen : es.size = l.length := by have := congrArg List.length hl.kv; simpa using this
  refine .one' (c := .int .i64) (l.length : Int) (fun w hw => ?_) hK
  have hg := MapKept.run_getObj_map (P := P) (hw _ _ hb)
  simp [Builtin.len_, Sem.run_bind, run_underlying T.ty, hg, Result.andThen, hlen]
  rfl

theorem sem_mkmap {P : Program} {t : TypeId} {u : H} {K : Option Nat → H → Prop} (hK : ∀ b o, u b = none → MapAt (u.ins b o) b [] → K (some b) (u.ins b o)) : SemT P (Instr.makeMap t none) [.one .map] u K :=
  .one (c := .map) fun w hw => ⟨some w.heap.size, _, _, Go.RowKit.run_makeMap t w, hK _ _ (hw.none (Nat.le_refl _)) ⟨#[], 0, H.ins_same _ _ _, rfl, by simp, by simp, by simp⟩, Step.newKnown hw _⟩

/-! ### ranges -/

/-- An iterator over a map that stays as it is: what has come. -/
def IterAt (u : H) (r b : Nat) (l dl : List (Int × Value)) : Prop :=
  ∃ es clock seen, u b = some (.map es clock) ∧ Ents es clock l ∧ u r = some (.mapIter (some b) clock seen clock) ∧
    ∃ ds : List MapEntry, seen.toList = ds.map (·.born) ∧ ds.map MapEntry.kv = dl.map kvOf ∧ (∀ d ∈ ds, d ∈ es.toList) ∧ (dl.map (·.1)).Nodup

theorem IterAt.else {u u' : H} {r b : Nat} {l dl : List (Int × Value)} (h : IterAt u r b l dl) (hb : ∀ o, u b = some o → u' b = some o) (hr : ∀ o, u r = some o → u' r = some o) : IterAt u' r b l dl := by
  obtain ⟨es, c, seen, h1, h2, h3, h4⟩ := h
  exact ⟨es, c, seen, hb _ h1, h2, hr _ h3, h4⟩

theorem IterAt.map {u : H} {r b : Nat} {l dl : List (Int × Value)} (h : IterAt u r b l dl) : MapAt u b l := by
  obtain ⟨es, c, seen, h1, h2, _⟩ := h
  exact ⟨es, c, h1, h2⟩

theorem IterAt.sub {u : H} {r b : Nat} {l dl : List (Int × Value)} (h : IterAt u r b l dl) : ∀ p ∈ dl, p ∈ l := by
  obtain ⟨es, c, seen, h1, h2, h3, ds, h4, h5, h6, h7⟩ := h
  intro p hp
  have : kvOf p ∈ ds.map MapEntry.kv := by rw [h5]; exact List.mem_map.2 ⟨p, hp, rfl⟩
  obtain ⟨d, hd, e⟩ := List.mem_map.1 this
  have : kvOf p ∈ l.map kvOf := by rw [← h2.kv, ← e]; exact List.mem_map.2 ⟨d, h6 d hd, rfl⟩
  obtain ⟨q, hq, e⟩ := List.mem_map.1 this
  rw [← kvOf_inj e]; exact hq

end Go.Proofs.YtbohcdjoglidhaaGreatDoor

/- VcVpD -/
namespace Go.Proofs.YtbohcdjoglidhaaGreatDoor.Vp

theorem bDrop : hasBody Tryz.prog 209 = true := by kernel_rfl
theorem bDrop1 : hasBody Tryz.prog 210 = true := by kernel_rfl

theorem drop_pred {ub : H} {n0 : Nat} {id : Int} (c0 : ub.cell? ⟨n0, 0, none⟩ = some (.int .i64 id)) : RowPred ub (.func (.func 210) #[] #[.pointer (some ⟨n0, 0, none⟩)]) fun r => decide (r.id = id) := fun r v K hv hK =>
  .inl ⟨_, _, _, rfl, bodyOf bDrop1, vc.vptree_Tree__Delete_1_1 r.id r.s ⟨n0, 0, none⟩ v K ⟨_, H.le.cell (show ub.le v from hv) c0, hK⟩⟩

theorem spec.drop {ub : H} {n0 n1 : Nat} {id : Int} (c0 : ub.cell? ⟨n0, 0, none⟩ = some (.int .i64 id)) (c1 : ub.cell? ⟨n1, 0, none⟩ = some (.func (.func 209) #[] #[.pointer (some ⟨n0, 0, none⟩), .pointer (some ⟨n1, 0, none⟩)])) :
    ∀ (n : PN) {u : H} {K : H → Prop}, ub.le u → (∀ x ∈ n.heads, PhAt u x) → n.own.Nodup → (∀ c ∈ n.own, ub c = none) → (∀ x ∈ n.heads, ∀ r ∈ x.1.rows, Ints ub r.s r.v) → n.heads.length ≤ 10000000 → (∀ u' n', DropR id n u' n' → (∀ c o, u c = some o → c ∉ n.own → u' c = some o) → (∀ c, u c ≠ none → u' c ≠ none) → K u') →
      C.vptree_Tree__Delete_1 (some ⟨n.b, 0, none⟩) ⟨n0, 0, none⟩ ⟨n1, 0, none⟩ u K := by
  intro n
  induction n using PN.ind with
  | h n ih =>
    intro u K hub hone hnd hout hvec hsz hK
    have hh : (n.h, n.kids.map PN.b) ∈ n.heads := by rw [PN.heads_eq]; exact List.mem_cons_self ..
    have h0 := hone _ hh
    have hb : n.b = n.h.b := rfl
    rw [PN.own_eq] at hnd hout
    have hnd2 := hnd
    rw [List.nodup_append] at hnd2
    obtain ⟨hn1, hn2, hn3⟩ := hnd2
    have hsrb : ∀ g, n.h.sr.blk = some g → g ∈ n.h.blks := fun g hg => by simp [PH.blks, hg]
    have hsrne : n.h.sr.blk ≠ some n.h.b := fun e => by
      unfold PH.blks at hn1
      rw [List.nodup_cons] at hn1
      exact hn1.1 (by simp [e])
    have kidl : n.kids.length ≤ 10000000 := by
      have h1 : n.heads.length = 1 + (n.kids.flatMap PN.heads).length := by rw [PN.heads_eq, List.length_cons]; omega
      have h2 : ∀ ks : List PN, ks.length ≤ (ks.flatMap PN.heads).length := fun ks => by
        induction ks with
        | nil => simp
        | cons k ks ihk => rw [List.flatMap_cons, List.length_append, List.length_cons]; have := k.heads_pos; omega
      have := h2 n.kids
      omega
    apply vc.vptree_Tree__Delete_1
    refine ⟨_, rfl, n.h.sr, H.cell?_of h0.cell 6, ?_⟩
    refine spec.slices_DeleteFunc__api_Row_ h0.rws.f (drop_pred c0) hub (fun g hg => hout g (List.mem_append_left _ (hsrb g hg))) fun s2 u3 ho2 hb2 he2 => ?_
    have hfil : (n.h.rows.filter fun r => !decide (r.id = id)) = n.h.rows.filter fun r => r.id != id := List.filter_congr fun r _ => by by_cases e : r.id = id <;> simp [e]
    rw [hfil] at ho2
    refine ⟨_, rfl, ?_⟩
    have hcell3 : u3 n.h.b = some (.cells (partC n.h).toArray 132 (0, 0)) := he2 _ _ h0.cell hsrne
    refine st_rows hcell3 s2 (n.h.rows.filter fun r => r.id != id) ?_
    obtain ⟨h', hh'⟩ : ∃ h' : PH, h' = { n.h with sr := s2, rows := n.h.rows.filter fun r => r.id != id } := ⟨_, rfl⟩
    rw [← hh']
    have hb' : h'.b = n.h.b := by rw [hh']
    have hbl' : h'.blks = n.h.blks := by rw [hh']; unfold PH.blks; simp [hb2]
    obtain ⟨u5, hu5⟩ : ∃ u5, u5 = u3.ins n.h.b (.cells (partC h').toArray 132 (0, 0)) := ⟨_, rfl⟩
    rw [← hu5]
    have s5 : u5 n.h.b = some (.cells (partC h').toArray 132 (0, 0)) := by rw [hu5]; exact H.ins_same _ _ _
    have e35 : ∀ c o, u3 c = some o → c ≠ n.h.b → u5 c = some o := fun c o hc hne => by rw [hu5, H.ins_other _ _ hne]; exact hc
    have e5 : ∀ c o, u c = some o → c ∉ n.h.blks → u5 c = some o := fun c o hc hne => e35 c o (he2 c o hc fun e => hne (hsrb c e)) fun e => hne (by rw [e]; exact List.mem_cons_self ..)
    have kn5 : ∀ c, u c ≠ none → u5 c ≠ none := fun c hc => by
      by_cases e : c = n.h.b
      · rw [e, s5]; simp
      · obtain ⟨o, ho⟩ := Option.ne_none_iff_exists'.1 hc
        by_cases e2 : n.h.sr.blk = some c
        · obtain ⟨o3, ho3⟩ := Option.ne_none_iff_exists'.1 (own_known ho2 (g := c) (by rw [hb2]; exact e2))
          rw [e35 c o3 ho3 e]; simp
        · rw [e35 c o (he2 c o ho e2) e]; simp
    have hub5 : ub.le u5 := fun c o hc => e5 c o (hub c o hc) fun hm => by rw [hout c (List.mem_append_left _ hm)] at hc; cases hc
    have own5 : ∀ {e k : Nat} {s : Sl} {xs : List Value}, Own u e k s xs → (∀ g, s.blk = some g → g ≠ n.h.b ∧ n.h.sr.blk ≠ some g) → Own u5 e k s xs := fun ho hne => ho.le fun c o hc hu => e35 c o (he2 c o hu fun e => (hne c hc).2 e) (hne c hc).1
    -- the part's own slices lie apart
    have hap : (∀ g, n.h.sl.blk = some g → g ≠ n.h.b ∧ n.h.sr.blk ≠ some g) ∧ (∀ g, n.h.sg.blk = some g → g ≠ n.h.b ∧ n.h.sr.blk ≠ some g) ∧ (∀ g, n.h.sk.blk = some g → g ≠ n.h.b ∧ n.h.sr.blk ≠ some g) := by
      unfold PH.blks at hn1
      rw [List.nodup_cons] at hn1
      obtain ⟨q1, q2⟩ := hn1
      have hq : ∀ g, g ∈ n.h.sl.blk.toList ++ n.h.sg.blk.toList ++ n.h.sr.blk.toList ++ n.h.sk.blk.toList → g ≠ n.h.b := fun g hg e => q1 (by rw [← e]; exact hg)
      rw [List.nodup_append, List.nodup_append, List.nodup_append] at q2
      obtain ⟨⟨⟨_, _, q3⟩, _, q4⟩, _, q5⟩ := q2
      refine ⟨fun g hg => ⟨hq g (by simp [hg]), fun e => q4 g (by simp [hg]) g (by simp [e]) rfl⟩, fun g hg => ⟨hq g (by simp [hg]), fun e => q4 g (by simp [hg]) g (by simp [e]) rfl⟩, fun g hg => ⟨hq g (by simp [hg]), fun e => q5 g (by simp [e]) g (by simp [hg]) rfl⟩⟩
    have hPh : ∀ kb, kb = n.kids.map PN.b → PhAt u5 (h', kb) := fun kb hkb => by
      subst hkb
      subst hh'
      refine ⟨s5, own5 h0.lo hap.1, own5 h0.hi hap.2.1, ho2.own.le fun c o hc hu => e35 c o hu fun e => hsrne (by rw [← hb2, hc, e]), fun r hr => (hvec _ hh r (List.mem_filter.1 hr).1).mono hub5, Seg.else h0.kid fun g o hg ho => e35 g o (he2 g o ho fun e => (hap.2.2 g hg).2 e) (hap.2.2 g hg).1⟩
    have hskh : h'.sk = n.h.sk := by rw [hh']
    refine ⟨_, rfl, h'.sk, by rw [hb]; exact H.cell?_of s5 7, ?_⟩
    -- the kids, one by one
    refine ⟨fun x w => 0 ≤ x ∧ x ≤ n.kids.length ∧ (∀ c o, u5 c = some o → c ∉ n.kids.flatMap PN.own → w c = some o) ∧ (∀ c, u5 c ≠ none → w c ≠ none) ∧ ∃ ds : List PN, ds.length = x.toNat ∧ (∀ (i : Nat) d k, ds[i]? = some d → n.kids[i]? = some k → DropR id k w d) ∧ (∀ (i : Nat) k, x.toNat ≤ i → n.kids[i]? = some k → ∀ y ∈ k.heads, PhAt w y),
      fun x _ => ((n.kids.length : Int) - x).toNat, ⟨by omega, by omega, fun c o hc _ => hc, fun c hc => hc, [], rfl, fun i d k hd => by simp at hd, fun i k _ hk y hy => ?_⟩, ?_⟩
    · obtain ⟨z1, z2⟩ : k.own ⊆ n.kids.flatMap PN.own ∧ True := ⟨fun c hc => List.mem_flatMap.2 ⟨k, List.mem_of_getElem? hk, hc⟩, trivial⟩
      have hyn : y ∈ n.heads := by rw [PN.heads_eq]; exact List.mem_cons_of_mem _ (List.mem_flatMap.2 ⟨k, List.mem_of_getElem? hk, hy⟩)
      refine (hone y hyn).keep (fun c o hc ho => e5 c o ho fun hm => hn3 c hm c (z1 (List.mem_flatMap.2 ⟨y, hy, hc⟩)) rfl) fun r hr => (hvec y hyn r hr).mono hub5
    · rintro x w ⟨x0, x1, hoth, hkw, ds, hdl, hds, hrest⟩
      have hubw : ub.le w := fun c o hc => hoth c o (hub5 c o hc) fun hm => by rw [hout c (List.mem_append_right _ hm)] at hc; cases hc
      have hskn : h'.sk.n = n.kids.length := by rw [hskh]; have := h0.kid.len; simp at this; omega
      have hkid : ∀ {z : Nat} {k : PN}, n.kids[z]? = some k → (∀ y ∈ k.heads, y ∈ n.heads) ∧ (∀ c ∈ k.own, c ∈ n.kids.flatMap PN.own) := fun hk => ⟨fun y hy => by rw [PN.heads_eq]; exact List.mem_cons_of_mem _ (List.mem_flatMap.2 ⟨_, List.mem_of_getElem? hk, hy⟩), fun c hc => List.mem_flatMap.2 ⟨_, List.mem_of_getElem? hk, hc⟩⟩
      refine ⟨fun hx => ?_, fun hx => ?_⟩
      · have hxl : x.toNat < n.kids.length := by omega
        obtain ⟨k, hk⟩ : ∃ k, n.kids[x.toNat]? = some k := ⟨_, List.getElem?_eq_getElem hxl⟩
        have hsk5 : Seg u5 n.h.sk 1 ((n.kids.map PN.b).map fun n => .pointer (some ⟨n, 0, none⟩)) := (hPh _ rfl).kid |> fun h => by rw [hskh] at h; exact h
        have hskw : Seg w n.h.sk 1 ((n.kids.map PN.b).map fun n => .pointer (some ⟨n, 0, none⟩)) := Seg.else hsk5 fun g o hg ho => hoth g o ho fun hm => hn3 g (by simp [PH.blks, hg]) g hm rfl
        have hget : ((n.kids.map PN.b).map fun n => Value.pointer (some ⟨n, 0, none⟩))[x.toNat]? = some (.pointer (some ⟨k.b, 0, none⟩)) := by simp [hk]
        obtain ⟨p, hp, hcell⟩ := hskw.at' |>.resolve_left (fun e => by rw [e] at hget; simp at hget)
        have hcx := hcell _ _ hget
        obtain ⟨k1, k2⟩ := hkid hk
        have hkn : k.own.Nodup := hn2.sublist (List.sublist_flatten_of_mem (List.mem_map_of_mem (f := PN.own) (List.mem_of_getElem? hk)))
        have hsz2 : k.heads.length ≤ 10000000 := by
          have h1 : n.heads.length = 1 + (n.kids.flatMap PN.heads).length := by rw [PN.heads_eq, List.length_cons]; omega
          have h2 : k.heads.length ≤ (n.kids.flatMap PN.heads).length := (List.sublist_flatten_of_mem (List.mem_map_of_mem (f := PN.heads) (List.mem_of_getElem? hk))).length_le
          omega
        refine ⟨p, by rw [hskh]; exact hp, ⟨x0, by omega⟩, _, by rw [Nat.mul_one]; exact hcx, _, hubw.cell c1, .inl ⟨_, _, _, rfl, bodyOf bDrop, ?_⟩⟩
        refine ih k (List.mem_of_getElem? hk) hubw (hrest x.toNat k (Nat.le_refl _) hk) hkn (fun c hc => hout c (List.mem_append_right _ (k2 c hc))) (fun y hy => hvec y (k1 y hy)) hsz2 fun w' d hd hel hk3 => ?_
        have hubw' : ub.le w' := fun c o hc => hel c o (hubw c o hc) fun e => by rw [hout c (List.mem_append_right _ (k2 c e))] at hc; cases hc
        have other : ∀ {i : Nat} {k' : PN}, n.kids[i]? = some k' → i ≠ x.toNat → ∀ c ∈ k'.own, c ∉ k.own := fun hk' hne c hc => flat_apart hn2 hk' hk hne hc
        refine ⟨⟨by omega, by omega⟩, ⟨by omega, by omega, fun c o hc hm => hel c o (hoth c o hc hm) fun e => hm (k2 c e), fun c hc => hk3 c (hkw c hc), ds ++ [d], by rw [List.length_append, hdl]; simp; omega, fun i d' k' hd' hk' => ?_, fun i k' hi hk' y hy => ?_⟩, by dsimp only; omega⟩
        · by_cases e : i < ds.length
          · rw [List.getElem?_append_left e] at hd'
            have hold := hds i d' k' hd' hk'
            have hne := other hk' (by omega)
            refine ⟨fun y hy => (hold.one y hy).keep (fun c o hc ho => hel c o ho (hne c (by rw [← hold.own]; exact List.mem_flatMap.2 ⟨y, hy, hc⟩))) fun r hr => ?_, hold.own, hold.b, hold.pt, hold.rows⟩
            obtain ⟨z, hz, hrz⟩ := hold.rows y hy r hr
            exact (hvec z ((hkid hk').1 z hz) r hrz).mono hubw'
          · have hil : i < (ds ++ [d]).length := (List.getElem?_eq_some_iff.1 hd').1
            rw [List.length_append, List.length_singleton] at hil
            have ei : i = x.toNat := by omega
            rw [List.getElem?_append_right (by omega), show i - ds.length = 0 by omega] at hd'
            obtain rfl := Option.some.inj (show some d = some d' from hd')
            rw [ei, hk] at hk'
            obtain rfl := Option.some.inj hk'
            exact hd
        · refine (hrest i k' (by omega) hk' y hy).keep (fun c o hc ho => hel c o ho (other hk' (by omega) c (List.mem_flatMap.2 ⟨y, hy, hc⟩))) fun r hr => (hvec y ((hkid hk').1 y hy) r hr).mono hubw'
      · have hxl : x.toNat = n.kids.length := by omega
        have hdl' : ds.length = n.kids.length := by omega
        have emap : ∀ {γ : Type} (f g : PN → γ), (∀ (i : Nat) d k, ds[i]? = some d → n.kids[i]? = some k → f d = g k) → ds.map f = n.kids.map g := fun f g hfg => by
          apply List.ext_getElem?
          intro i
          rw [List.getElem?_map, List.getElem?_map]
          by_cases e : i < ds.length
          · have h1 : ds[i]? = some ds[i] := List.getElem?_eq_getElem e
            have h2 : n.kids[i]? = some n.kids[i] := List.getElem?_eq_getElem (by omega)
            rw [h1, h2, Option.map_some, Option.map_some, hfg i _ _ h1 h2]
          · rw [List.getElem?_eq_none (by omega), List.getElem?_eq_none (by omega)]
            rfl
        have eb : ds.map PN.b = n.kids.map PN.b := emap _ _ fun i d k h1 h2 => (hds i d k h1 h2).b
        have eo : ds.flatMap PN.own = n.kids.flatMap PN.own := by
          rw [List.flatMap_def, List.flatMap_def, emap PN.own PN.own fun i d k h1 h2 => (hds i d k h1 h2).own]
        have ep : ds.map PN.pt = n.kids.map fun k => k.pt.del id := emap _ _ fun i d k h1 h2 => (hds i d k h1 h2).pt
        have mem : ∀ d ∈ ds, ∃ k ∈ n.kids, DropR id k w d := fun d hd => by
          obtain ⟨i, hi, rfl⟩ := List.getElem_of_mem hd
          exact ⟨_, List.getElem_mem (show i < n.kids.length by omega), hds i _ _ (List.getElem?_eq_getElem hi) (List.getElem?_eq_getElem (by omega))⟩
        refine hK w (.mk h' ds) ⟨fun y hy => ?_, ?_, hb', ?_, fun y hy r hr => ?_⟩ (fun c o hc hm => ?_) fun c hc => hkw c (kn5 c hc)
        · rw [PN.heads_eq] at hy
          rcases List.mem_cons.1 hy with rfl | hy
          · refine (hPh _ eb).keep (fun c o hc ho => hoth c o ho fun hm => hn3 c (by rw [← hbl']; exact hc) c hm rfl) fun r hr => ?_
            have hr' : r ∈ n.h.rows := by rw [hh'] at hr; exact (List.mem_filter.1 hr).1
            exact (hvec _ hh r hr').mono hubw
          · obtain ⟨d, hd, hy⟩ := List.mem_flatMap.1 hy
            obtain ⟨k, _, hk⟩ := mem d hd
            exact hk.one y hy
        · rw [PN.own_eq, PN.own_eq]
          show h'.blks ++ ds.flatMap PN.own = _
          rw [hbl', eo]
        · rw [PN.pt_eq, PN.pt_eq, Pt.del_eq]
          show Pt.mk h'.sh h'.lo h'.hi h'.rad (h'.rows.map Rw.pr) (ds.map PN.pt) = Pt.mk n.h.sh n.h.lo n.h.hi n.h.rad ((n.h.rows.map Rw.pr).filter fun x => x.1 != id) ((n.kids.map PN.pt).map (Pt.del id))
          rw [ep, List.map_map, List.filter_map, hh']
          rfl
        · rw [PN.heads_eq] at hy
          rcases List.mem_cons.1 hy with rfl | hy
          · have hr' : r ∈ n.h.rows := by
              have : r ∈ h'.rows := hr
              rw [hh'] at this; exact (List.mem_filter.1 this).1
            exact ⟨_, hh, hr'⟩
          · obtain ⟨d, hd, hy⟩ := List.mem_flatMap.1 hy
            obtain ⟨k, hkm, hk⟩ := mem d hd
            obtain ⟨z, hz, hrz⟩ := hk.rows y hy r hr
            exact ⟨z, by rw [PN.heads_eq]; exact List.mem_cons_of_mem _ (List.mem_flatMap.2 ⟨k, hkm, hz⟩), hrz⟩
        · rw [PN.own_eq] at hm
          exact hoth c o (e5 c o hc fun h => hm (List.mem_append_left _ h)) fun h => hm (List.mem_append_right _ h)

end Go.Proofs.YtbohcdjoglidhaaGreatDoor.Vp

/- VcOwn -/
namespace Go.Proofs.YtbohcdjoglidhaaGreatDoor
open Go.Sort Go.Shelf

/-- Rows of one's own: their block, and each vector's. -/
structure RowsO (u0 u : H) (s : Sl) (ls : List Rw) : Prop where
  own : OwnF u0 u 24 2 s (ls.flatMap encR)
  inner : ∀ r ∈ ls, OwnF u0 u 3 1 r.s (r.v.flatMap encI)
  far : ∀ r ∈ ls, Far s r.s
  apart : ls.Pairwise fun a b => Far a.s b.s

theorem RowsO.rws {u0 u : H} {s : Sl} {ls : List Rw} (h : RowsO u0 u s ls) : Rws u s ls := ⟨h.own.own.seg, fun r hr => (h.inner r hr).ints⟩

theorem RowsO.mono {u0 u u' : H} {s : Sl} {ls : List Rw} (h : RowsO u0 u s ls) (k : u.le u') : RowsO u0 u' s ls :=
  ⟨h.own.mono k, fun r hr => (h.inner r hr).mono k, h.far, h.apart⟩

def Rws1 (r : Rw) : Prop := 1 ≤ r.id ∧ r.id ≤ 1000000000

theorem rowSWO : SWO (ltOf fun a b : { r // Rws1 r } => a.1.id - b.1.id) where
  irrefl x := by unfold ltOf; simp
  trans x y z h1 h2 := by unfold ltOf at *; simp only [decide_eq_true_eq] at *; omega
  ntrans x y z h1 h2 := by unfold ltOf at *; simp only [decide_eq_false_iff_not] at *; omega

instance : Inhabited { r // Rws1 r } := ⟨⟨⟨1, ⟨none, 0, 0⟩, []⟩, by unfold Rws1; decide⟩⟩

theorem spec.flat_Own {s : Sl} {l : List Rw} {u : H} {K : Sl → H → Prop} (hs : Rws u s l) (hid : ∀ r ∈ l, 1 ≤ r.id ∧ r.id ≤ 1000000000) (hn : l.length ≤ 1000000) (hv : ∀ r ∈ l, r.v.length ≤ 1000000)
    (hK : ∀ s' ls u', RowsO u u' s' ls → (ls.map Rw.pr).Perm (l.map Rw.pr) → (ls.Pairwise fun a b => a.id ≤ b.id) → K s' u') : C.flat_Own s u K := by
  have hsn := hs.len
  apply vc.flat_Own
  refine sem_make tRows (by omega) (Int.le_refl _) (by omega) (by omega) fun g hg => ?_
  have hmade : ∀ (n : Nat), (madeCells [Value.int .i64 0, .slice none 0 0].toArray (n * 2)).toList = (List.replicate n (⟨0, ⟨none, 0, 0⟩, []⟩ : Rw)).flatMap encR := fun n => made_flat (enc := encR) encR_len (by decide) ⟨0, ⟨none, 0, 0⟩, []⟩ n
  obtain ⟨cs, hcs⟩ : ∃ cs, madeCells [Value.int .i64 0, .slice none 0 0].toArray ((s.n : Int).toNat * 2) = cs := ⟨_, rfl⟩
  have hcl : cs.toList = (List.replicate l.length (⟨0, ⟨none, 0, 0⟩, []⟩ : Rw)).flatMap encR := by rw [← hcs, ← hmade, show (s.n : Int).toNat = l.length by omega]
  rw [hcs]
  have hcz : cs.size = l.length * 2 := by rw [← Array.length_toList, hcl, flat_len encR_len]; simp
  have ho0 : OwnF u (u.ins g (.cells cs 24 (0, 0))) 24 2 ⟨some ⟨g, 0, none⟩, l.length, l.length⟩ ((List.replicate l.length (⟨0, ⟨none, 0, 0⟩, []⟩ : Rw)).flatMap encR) := by
    have := OwnF.make (k := 2) (H.le.refl u) hg (cells := cs) (e := 24) (n := l.length) (by omega) hcz
    rw [hcl] at this
    exact this
  rw [show (s.n : Int).toNat = l.length by omega]
  have hblk : (⟨some ⟨g, 0, none⟩, l.length, l.length⟩ : Sl).blk = some g := rfl
  refine ⟨fun i w => 0 ≤ i ∧ i ≤ l.length ∧ ∃ D : List Rw, D.map Rw.pr = (l.take i.toNat).map Rw.pr ∧ RowsO u w ⟨some ⟨g, 0, none⟩, l.length, l.length⟩ (D ++ List.replicate (l.length - i.toNat) ⟨0, ⟨none, 0, 0⟩, []⟩),
    fun i _ => l.length - i.toNat, ⟨by omega, by omega, [], by simp, ?_⟩, ?_⟩
  · refine ⟨by simpa using ho0, fun r hr => ?_, fun r hr => ?_, ?_⟩
    · simp at hr
      rw [hr.2]
      exact OwnF.nil (H.le_ins _ hg) _ _
    · simp at hr
      rw [hr.2]
      intro x _ hx; simp [Sl.blk] at hx
    · simp only [List.nil_append]
      rw [List.pairwise_replicate]
      exact .inr fun x hx => by simp [Sl.blk] at hx
  rintro i w ⟨i0, i1, D, hD, hR⟩
  have hDl : D.length = i.toNat := by have := congrArg List.length hD; simp at this; omega
  refine ⟨fun hil => ?_, fun hig => ?_⟩
  · obtain ⟨p, hp, r, hr, c0, c1, c2⟩ := (hs.mono hR.own.le).at i0 hil
    have hrm : r ∈ l := List.mem_of_getElem? hr
    have hrv := c2.len
    have := hv r hrm
    refine ⟨p, hp, ⟨i0, hil⟩, _, c0, _, c1, spec.slices_Clone___int_int_ c2 (by omega) fun s9 u10 ho9 hn9 => ⟨ho9.le, _, rfl, ⟨i0, by show i < ((l.length : Nat) : Int); omega⟩, ?_⟩⟩
    have hR10 := hR.mono ho9.le
    refine OwnF.store (enc := encR) encR_len hR10.own (by decide) (i := i.toNat) (by simp; omega) (y := ⟨r.id, s9, r.v⟩) (encR_one _) rfl fun u12 ho12 he12 _ => ⟨⟨by omega, by omega⟩, ⟨by omega, by omega, D ++ [⟨r.id, s9, r.v⟩], ?_, ?_⟩, by dsimp only; omega⟩
    · rw [show (i + 1).toNat = i.toNat + 1 by omega, List.take_add_one, hr, List.map_append, hD]
      simp [Rw.pr]
    · have hset : (D ++ List.replicate (l.length - i.toNat) (⟨0, ⟨none, 0, 0⟩, []⟩ : Rw)).set i.toNat ⟨r.id, s9, r.v⟩ = D ++ [⟨r.id, s9, r.v⟩] ++ List.replicate (l.length - (i + 1).toNat) ⟨0, ⟨none, 0, 0⟩, []⟩ := by
        rw [show l.length - i.toNat = (l.length - (i + 1).toNat) + 1 by omega, List.replicate_succ, ← hDl, set_mid]
        simp
      rw [hset] at ho12
      -- blocks
      have hold : ∀ x ∈ D, OwnF u w 3 1 x.s (x.v.flatMap encI) := fun x hx => hR.inner x (List.mem_append_left _ hx)
      have hgk : w g ≠ none := own_known hR.own hblk
      have hs9g : s9.blk ≠ some g := fun e => hgk (ho9.fresh g e)
      have hfarD : ∀ x ∈ D, Far x.s s9 := fun x hx c hc hc' => own_known (hold x hx) hc (ho9.fresh c hc')
      have hDg : ∀ x ∈ D, Far ⟨some ⟨g, 0, none⟩, l.length, l.length⟩ x.s := fun x hx => hR.far x (List.mem_append_left _ hx)
      refine ⟨ho12, fun x hx => ?_, fun x hx => ?_, ?_⟩
      · rcases List.mem_append.1 hx with hx | hx
        · rcases List.mem_append.1 hx with hx | hx
          · exact OwnF.else ((hold x hx).mono ho9.le) he12 (fun c hc => hR.own.fresh c hc) fun c hc => hDg x hx c hc
          · simp at hx
            subst hx
            exact OwnF.else (ho9.weaken hR.own.le) he12 (fun c hc => hR.own.fresh c hc) fun c hc => by
              have : c = g := by rw [hblk] at hc; exact (Option.some.inj hc).symm
              rw [this]; exact hs9g
        · rw [(List.mem_replicate.1 hx).2]
          exact OwnF.nil (ho12.le) _ _
      · rcases List.mem_append.1 hx with hx | hx
        · rcases List.mem_append.1 hx with hx | hx
          · exact hDg x hx
          · simp at hx
            subst hx
            intro c hc
            have : c = g := by rw [hblk] at hc; exact (Option.some.inj hc).symm
            rw [this]; exact hs9g
        · rw [(List.mem_replicate.1 hx).2]
          intro c _ hc; simp [Sl.blk] at hc
      · have hap := (List.pairwise_append.1 hR.apart).1
        refine List.pairwise_append.2 ⟨List.pairwise_append.2 ⟨hap, by simp, fun x hx y hy => ?_⟩, ?_, fun x hx y hy => ?_⟩
        · simp at hy; subst hy; exact hfarD x hx
        · rw [List.pairwise_replicate]
          exact .inr fun c hc => by simp [Sl.blk] at hc
        · rw [(List.mem_replicate.1 hy).2]
          intro c _ hc; simp [Sl.blk] at hc
  · have hil : i.toNat = l.length := by
      have : ¬ i < (s.n : Int) := hig
      omega
    rw [hil, Nat.sub_self, List.replicate_zero, List.append_nil] at hR
    rw [hil, List.take_length] at hD
    have hin : ∀ r ∈ D, Rws1 r := fun r hr => by
      have : r.pr ∈ l.map Rw.pr := by rw [← hD]; exact List.mem_map.2 ⟨r, hr, rfl⟩
      obtain ⟨r', hr', e⟩ := List.mem_map.1 this
      have h1 := hid r' hr'
      have : r'.id = r.id := congrArg Prod.fst e
      unfold Rws1; rw [← this]; exact h1
    obtain ⟨E, hE⟩ : ∃ E : List { r // Rws1 r }, E.map (·.1) = D := ⟨D.attachWith _ hin, by simp⟩
    have hown := hR.own
    rw [← hE] at hown
    refine spec.slices_SortFunc__api_Row_ (val := fun r : { r // Rws1 r } => r.1) rowSWO (enters_of Tryz.func37 (by kernel_rfl) rfl) (fun a b v => ?_) hown (by have := congrArg List.length hE; simp at this; omega) fun u2 E' hp hsrt ho2 he2 => hK _ (E'.map (·.1)) _ ?_ ?_ ?_
    · have ha := a.2
      have hb := b.2
      unfold Rws1 at ha hb
      exact vc.flat_Own_1 a.1.id a.1.s b.1.id b.1.s v (fun z' u2 => z' = a.1.id - b.1.id ∧ u2 = v) ⟨⟨by omega, by omega⟩, rfl, rfl⟩
    · have hpm : (E'.map (·.1)).Perm D := by rw [← hE]; exact hp.map _
      have hmem : ∀ x ∈ E'.map (·.1), x ∈ D := fun x hx => hpm.mem_iff.1 hx
      exact ⟨ho2, fun r hr => OwnF.else (hR.inner r (hmem r hr)) he2 (fun c hc => hR.own.fresh c hc) fun c hc => hR.far r (hmem r hr) c hc, fun r hr => hR.far r (hmem r hr), hR.apart.perm hpm.symm fun h => h.symm⟩
    · rw [← hD, ← hE]
      exact ((hp.map (·.1)).map Rw.pr)
    · rw [List.pairwise_map]
      exact hsrt.imp fun h => by omega

/-- The error of a row that is to be put. -/
def mayErr (id : Int) (v : List Int) (d : Int) (there : Bool) (many : Int) : Int :=
  if id < 1 ∨ 1000000000 < id then 50 else if vcheck v d ≠ 0 then vcheck v d else if there = false ∧ 512 ≤ many then 2 else 0

theorem spec.flat_May {id : Int} {s : Sl} {v : List Int} {d : Int} {there : Bool} {many : Int} {u : H} {K : Int → H → Prop} (hs : Ints u s v) (h : K (mayErr id v d there many) u) : C.flat_May id s d there many u K := by
  apply vc.flat_May
  refine spec.vec_Check hs ?_
  intro K2 hK2
  have go : ∀ bb : Bool, (bb = true ↔ (id < 1 ∨ 1000000000 < id)) → K2 bb u := fun bb hb => hK2 bb u ⟨fun e => ?_, fun e => ⟨fun hne => ?_, fun he => ⟨fun ht => ⟨fun hm => ?_, fun hm => ?_⟩, fun ht => ?_⟩⟩⟩
  · exact ⟨fun h1 => go true ⟨fun _ => .inl h1, fun _ => rfl⟩, fun h1 => go _ ⟨fun e => .inr (by simpa using e), fun e => by simp; omega⟩⟩
  · unfold mayErr at h; rw [if_pos (hb.1 e)] at h; exact h
  all_goals
    have hnb : ¬ (id < 1 ∨ 1000000000 < id) := fun e2 => by rw [hb.2 e2] at e; cases e
    unfold mayErr at h
    rw [if_neg hnb] at h
  · rw [if_pos hne] at h; exact h
  · rw [if_neg (by simpa using he), if_pos ⟨by simpa using ht, hm⟩] at h; exact h
  · rw [if_neg (by simpa using he), if_neg (fun h2 => hm h2.2)] at h; exact h
  · rw [if_neg (by simpa using he), if_neg (fun h2 => by rw [ht] at h2; cases h2.1)] at h; exact h

/-- The error of a question. -/
def askErr (q : List Int) (d k b : Int) : Int := if vcheck q d ≠ 0 then vcheck q d else if k < 1 ∨ 64 < k ∨ b < 0 ∨ 1000000 < b then 1 else 0

theorem spec.flat_Asked {t : Sl} {q : List Int} {d k b : Int} {u : H} {K : Int → H → Prop} (ht : Ints u t q) (h : K (askErr q d k b) u) : C.flat_Asked t d k b u K := by
  unfold askErr at h
  apply vc.flat_Asked
  refine spec.vec_Check ht ⟨fun hne => by rw [if_pos hne] at h; exact h, fun he => ?_⟩
  rw [if_neg (by simpa using he)] at h
  by_cases hbad : k < 1 ∨ 64 < k ∨ b < 0 ∨ 1000000 < b
  · rw [if_pos hbad] at h
    exact ⟨fun _ => h, fun k1 => ⟨fun _ => h, fun k2 => ⟨fun _ => h, fun b1 => ⟨fun _ => h, fun b2 => by omega⟩⟩⟩⟩
  · rw [if_neg hbad] at h
    exact ⟨fun k1 => by omega, fun _ => ⟨fun k2 => by omega, fun _ => ⟨fun b1 => by omega, fun _ => ⟨fun b2 => by omega, fun _ => h⟩⟩⟩⟩

theorem askErr_ok {q : List Int} {d k b : Int} : askErr q d k b = 0 ↔ vcheck q d = 0 ∧ 1 ≤ k ∧ k ≤ 64 ∧ 0 ≤ b ∧ b ≤ 1000000 := by
  unfold askErr
  by_cases h1 : vcheck q d = 0
  · rw [if_neg (by simpa using h1)]
    by_cases h2 : k < 1 ∨ 64 < k ∨ b < 0 ∨ 1000000 < b
    · rw [if_pos h2]; constructor
      · intro h; cases h
      · rintro ⟨_, h3⟩; omega
    · rw [if_neg h2]; exact ⟨fun _ => ⟨h1, by omega⟩, fun _ => rfl⟩
  · rw [if_pos h1]
    exact ⟨fun h => absurd h h1, fun h => absurd h.1 h1⟩

end Go.Proofs.YtbohcdjoglidhaaGreatDoor

/- VcVp1 -/
namespace Go.Proofs.YtbohcdjoglidhaaGreatDoor.Vp

theorem spec.cut {ub u : H} {tb src : Nat} {d leaf : Int} {s : Sl} {l : List Rw} {K : Option Addr → H → Prop} (hlf : 1 ≤ leaf) (tl : ub.cell? ((Addr.mk tb 0 none).add 1) = some (.int .i64 leaf)) (ts : ub.cell? ((Addr.mk tb 0 none).add 2) = some (.pointer (some ⟨src, 0, none⟩))) (hus : ub src = none) (hst : SrcAt u src) (hss : s.blk ≠ some src)
    (ho : OwnF ub u 24 2 s (l.flatMap encR)) (hv : ∀ r ∈ l, Ints ub r.s r.v) (hok : Rok l d) (h0 : l = [] → ∀ u', u.le u' → K none u') (hK : l ≠ [] → ∀ u' n, CutS ub u src s l d u' n → K (some ⟨n.b, 0, none⟩) u') : C.vptree_Tree__cut (some ⟨tb, 0, none⟩) s u K := by
  have hub := ho.le
  apply vc.vptree_Tree__cut
  intro n0 hn0 n1 hn1
  obtain ⟨o0, ho0⟩ : ∃ o0, o0 = (Obj.cells #[Value.pointer (some ⟨tb, 0, none⟩)] 76 (0, 0)) := ⟨_, rfl⟩
  rw [← ho0] at hn1 ⊢
  have hn01 : n0 ≠ n1 := fun e => by rw [← e, H.ins_same] at hn1; cases hn1
  have hn1u : u n1 = none := by rw [H.ins_other _ _ (Ne.symm hn01)] at hn1; exact hn1
  refine st_new (zs := [.nilFunc]) rfl (by simp [Value.oneCell']) ?_
  obtain ⟨o1, ho1⟩ : ∃ o1, o1 = (Obj.cells [cutV n0 n1].toArray 104 (0, 0)) := ⟨_, rfl⟩
  rw [← ho1]
  obtain ⟨u2, hu2⟩ : ∃ u2, u2 = (u.ins n0 o0).ins n1 o1 := ⟨_, rfl⟩
  rw [← hu2]
  have lu2 : u.le u2 := by rw [hu2]; exact (H.le_ins _ hn0).trans (H.le_ins _ hn1)
  have d0 : u2 n0 = some o0 := by rw [hu2, H.ins_other _ _ hn01, H.ins_same]
  have d1 : u2 n1 = some o1 := by rw [hu2, H.ins_same]
  obtain ⟨ub2, hub2⟩ : ∃ ub2 : H, ub2 = fun c => if c = n0 then some o0 else if c = n1 then some o1 else ub c := ⟨_, rfl⟩
  have b0 : ub2 n0 = some o0 := by rw [hub2]; exact if_pos rfl
  have b1 : ub2 n1 = some o1 := by
    rw [hub2]
    show (if n1 = n0 then _ else if n1 = n1 then _ else _) = _
    rw [if_neg (Ne.symm hn01), if_pos rfl]
  have b2 : ∀ {c}, c ≠ n0 → c ≠ n1 → ub2 c = ub c := fun {c} h1 h2 => by
    rw [hub2]
    show (if c = n0 then _ else if c = n1 then _ else _) = _
    rw [if_neg h1, if_neg h2]
  have lb : ub.le ub2 := fun c o hc => by
    rw [b2 (fun e => by rw [e, hub.none hn0] at hc; cases hc) (fun e => by rw [e, hub.none hn1u] at hc; cases hc)]
    exact hc
  have lb2 : ub2.le u2 := fun c o hc => by
    by_cases e0 : c = n0
    · rw [e0, b0] at hc; rw [e0, d0]; exact hc
    · by_cases e1 : c = n1
      · rw [e1, b1] at hc; rw [e1, d1]; exact hc
      · rw [b2 e0 e1] at hc; exact lu2 c o (hub c o hc)
  have ho2 : OwnF ub2 u2 24 2 s (l.flatMap encR) := ⟨(ho.mono lu2).own, lb2, fun g hg => by
    rw [b2 (fun e => own_known ho hg (by rw [e]; exact hn0)) (fun e => own_known ho hg (by rw [e]; exact hn1u))]
    exact ho.fresh g hg⟩
  have hin : CutIn ub2 n0 n1 tb src leaf := ⟨by rw [ho0] at b0; exact H.cell?_of b0 0, by rw [ho1] at b1; exact H.cell?_of b1 0, H.le.cell lb tl, H.le.cell lb ts⟩
  obtain ⟨st, hst⟩ := hst
  have us2 : ub2 src = none := by
    rw [b2 (fun e => by rw [← e, hst] at hn0; cases hn0) (fun e => by rw [← e, hst] at hn1u; cases hn1u)]
    exact hus
  refine ⟨_, H.le.cell lb2 hin.c1, .inl ⟨_, _, _, rfl, bodyOf bCut, ?_⟩⟩
  exact spec.cut1 hlf l.length (Nat.le_refl _) hin us2 ⟨st, lu2 _ _ hst⟩ hss ho2 (fun r hr => (hv r hr).mono lb) hok (fun e => h0 e u2 lu2) fun hne u' n hc => hK hne u' n ⟨hc.one, hc.nodup, fun c hm => ⟨lb.none (hc.out c hm).1, (hc.out c hm).2⟩, hc.all, hc.ok, hc.rows, hc.size, fun c o h1 h2 h3 => hc.else' c o (lu2 c o h1) h2 h3, hc.src, hc.shp, hc.bin⟩

/-! ### the tree -/
inductive Tg where
  | tree | map | node | vec | src

structure Tr where
  dim : Int
  leaf : Int
  src : Nat
  root : Option PN
  m : Nat
  w : List (Int × (Sl × List Int))
  gas : Nat

def Tr.links (T : Tr) : Int := T.leaf
def treeC (T : Tr) : List Value := [.int .i64 T.dim, .int .i64 T.leaf, .pointer (some ⟨T.src, 0, none⟩), .pointer (T.root.map fun n => ⟨n.b, 0, none⟩), .map (some T.m)]
def entL (w : List (Int × (Sl × List Int))) : List (Int × Value) := w.map fun e => (e.1, .slice e.2.1.a e.2.1.n e.2.1.c)

structure TrAt (fp : Nat → Option Tg) (u : H) (b : Nat) (T : Tr) : Prop where
  cell : u b = some (.cells (treeC T).toArray 108 (0, 0))
  btag : fp b = some .tree
  map : MapAt u T.m (entL T.w)
  mtag : fp T.m = some .map
  src : SrcAt u T.src
  stag : fp T.src = some .src
  vec : ∀ e ∈ T.w, Ints u e.2.1 e.2.2 ∧ ∀ g, e.2.1.blk = some g → fp g = some .vec
  one : ∀ n, T.root = some n → (∀ x ∈ n.heads, PhAt u x) ∧ n.own.Nodup ∧ (∀ c ∈ n.own, fp c = some .node) ∧ ∀ x ∈ n.heads, ∀ r ∈ x.1.rows, ∀ g, r.s.blk = some g → fp g = some .vec

theorem TrAt.keep {fp fp' : Nat → Option Tg} {u u' : H} {b : Nat} {T : Tr} (h : TrAt fp u b T) (hf : ∀ c, fp c ≠ none → fp' c = fp c) (hu : ∀ c o, u c = some o → fp c ≠ none → u' c = some o) : TrAt fp' u' b T where
  cell := hu _ _ h.cell (by rw [h.btag]; simp)
  btag := by rw [hf _ (by rw [h.btag]; simp)]; exact h.btag
  map := h.map.else fun o ho => hu _ _ ho (by rw [h.mtag]; simp)
  mtag := by rw [hf _ (by rw [h.mtag]; simp)]; exact h.mtag
  src := h.src.elim fun st hs => ⟨st, hu _ _ hs (by rw [h.stag]; simp)⟩
  stag := by rw [hf _ (by rw [h.stag]; simp)]; exact h.stag
  vec e he := by
    obtain ⟨h1, h2⟩ := h.vec e he
    exact ⟨Seg.else h1 fun g o hg ho => hu g o ho (by rw [h2 g hg]; simp), fun g hg => by rw [hf g (by rw [h2 g hg]; simp)]; exact h2 g hg⟩
  one n hn := by
    obtain ⟨h1, h2, h3, h4⟩ := h.one n hn
    refine ⟨fun x hx => (h1 x hx).keep (fun c o hc ho => hu c o ho (by rw [h3 c (List.mem_flatMap.2 ⟨x, hx, hc⟩)]; simp)) fun r hr => Seg.else ((h1 x hx).vec r hr) fun g o hg ho => hu g o ho (by rw [h4 x hx r hr g hg]; simp), h2, fun c hc => by rw [hf c (by rw [h3 c hc]; simp)]; exact h3 c hc, fun x hx r hr g hg => by rw [hf g (by rw [h4 x hx r hr g hg]; simp)]; exact h4 x hx r hr g hg⟩

theorem keep : KeepG TrAt := ⟨fun h hf hu => h.keep hf hu⟩
abbrev In := InG TrAt

def rootAll (T : Tr) : List Prw := match T.root with
  | none => []
  | some n => n.pt.all

def ixRows (X : Tr) : List (Int × List Int) := X.w.map fun e => (e.1, e.2.2)

structure TOk (T : Tr) : Prop where
  dm : 1 ≤ T.dim ∧ T.dim ≤ 64
  lf : 1 ≤ T.leaf ∧ T.leaf ≤ 64
  ids : ∀ e ∈ T.w, 1 ≤ e.1 ∧ e.1 ≤ 1000000000
  vec : ∀ e ∈ T.w, (e.2.2.length : Int) = T.dim ∧ vok e.2.2
  small : T.w.length ≤ 512
  rows : (rootAll T).Perm (ixRows T)
  ok : ∀ n, T.root = some n → PtOk T.dim n.pt
  shp : ∀ n, T.root = some n → PtSh 3 n.pt
  bin : ∀ n, T.root = some n → PtBin n.pt
  size : ∀ n, T.root = some n → n.heads.length ≤ 1100 * T.gas + 2000

theorem mapTy : MapTy Tryz.prog 85 3 22 (.slice none 0 0) := ⟨by kernel_rfl, by kernel_rfl, fun _ => by kernel_rfl⟩
theorem ent_len (T : Tr) : (entL T.w).length = (ixRows T).length := by simp [entL, ixRows]

theorem TrAt.wnodup {fp : Nat → Option Tg} {u : H} {b : Nat} {T : Tr} (h : TrAt fp u b T) : ((ixRows T).map (·.1)).Nodup := by
  obtain ⟨es, cl, _, he⟩ := h.map
  have := he.nodup
  unfold entL at this
  rw [List.map_map] at this
  unfold ixRows
  rw [List.map_map]
  exact this

theorem spec.Len {u0 u : H} {fp : Nat → Option Tg} {b : Nat} {T : Tr} {K : Int → H → Prop} (h : In u0 u fp b T) (hK : K (ixRows T).length u) : C.vptree_Tree__Len (some ⟨b, 0, none⟩) u K := by
  apply vc.vptree_Tree__Len
  refine ⟨fun e => (by cases e), fun _ => ⟨_, rfl, _, H.cell?_of h.tr.cell 4, sem_maplen mapTy h.tr.map ?_⟩⟩
  rw [ent_len]
  exact hK

end Go.Proofs.YtbohcdjoglidhaaGreatDoor.Vp

/- VcVp2 -/
namespace Go.Proofs.YtbohcdjoglidhaaGreatDoor.Vp

structure DelRes (u0 u : H) (fp : Nat → Option Tg) (b : Nat) (T : Tr) (id : Int) (u' : H) (fp' : Nat → Option Tg) (T' : Tr) : Prop where
  is : In u0 u' fp' b T'
  turn : TurnG u fp u' fp'
  ok : TOk T'
  rows : ixRows T' = (ixRows T).filter fun x => x.1 != id
  dim : T'.dim = T.dim
  leaf : T'.leaf = T.leaf
  gas : T'.gas = T.gas

theorem getE (w : List (Int × (Sl × List Int))) (x : Int) : (getL (entL w) x = none ∧ x ∉ w.map (·.1)) ∨ ∃ e, e ∈ w ∧ e.1 = x ∧ getL (entL w) x = some (.slice e.2.1.a e.2.1.n e.2.1.c) := by
  cases h : getL (entL w) x with
  | none =>
    left
    have := getL_none.1 h
    unfold entL at this
    rw [List.map_map] at this
    exact ⟨rfl, this⟩
  | some v =>
    right
    have := getL_mem h
    obtain ⟨e, he, e2⟩ := List.mem_map.1 this
    have e3 : e.1 = x := congrArg Prod.fst e2
    have e4 : Value.slice e.2.1.a e.2.1.n e.2.1.c = v := congrArg Prod.snd e2
    exact ⟨e, he, e3, by rw [e4]⟩

theorem keys_ix (T : Tr) : (ixRows T).map (·.1) = T.w.map (·.1) := by unfold ixRows; rw [List.map_map]; rfl

theorem ent_filter (w : List (Int × (Sl × List Int))) (id : Int) : (entL w).filter (fun p => p.1 != id) = entL (w.filter fun e => e.1 != id) := by
  unfold entL
  rw [List.filter_map]
  rfl

theorem spec.Delete {u0 u : H} {fp : Nat → Option Tg} {b : Nat} {T : Tr} {id : Int} {K : Bool → Int → H → Prop} (h : In u0 u fp b T) (hT : TOk T) (hgas : T.gas ≤ 4000) (hno : id ∉ T.w.map (·.1) → ∀ u', u.le u' → K false 0 u')
    (hyes : id ∈ T.w.map (·.1) → ∀ u' fp' T', DelRes u0 u fp b T id u' fp' T' → K true 0 u') : C.vptree_Tree__Delete (some ⟨b, 0, none⟩) id u K := by
  apply vc.vptree_Tree__Delete
  intro n0 hn0
  obtain ⟨u1, hu1⟩ : ∃ u1, u1 = u.ins n0 (.cells #[.int .i64 id] 3 (0, 0)) := ⟨_, rfl⟩
  have l1 : u.le u1 := by rw [hu1]; exact H.le_ins _ hn0
  have d0 : u1 n0 = some (.cells #[.int .i64 id] 3 (0, 0)) := by rw [hu1]; exact H.ins_same _ _ _
  rw [← hu1]
  have i1 := InG.mono keep h l1
  have tr := i1.tr
  refine ⟨fun e => (by cases e), fun _ => ⟨_, rfl, _, H.cell?_of tr.cell 4, id, H.cell?_of d0 0, ?_⟩⟩
  rcases getE T.w id with ⟨hg, hm⟩ | ⟨e, he, hid, hg⟩
  · refine sem_get2 mapTy tr.map (ct := .slice) (⟨none, 0, 0⟩ : Sl) (by rw [hg]; rfl) ⟨fun _ => hno hm u1 l1, fun hx => ?_⟩
    rw [hg] at hx; cases hx
  · have hin : id ∈ T.w.map (·.1) := List.mem_map.2 ⟨e, he, hid⟩
    refine sem_get2 mapTy tr.map (ct := .slice) e.2.1 (by rw [hg]; rfl) ⟨fun hx => ?_, fun _ => ?_⟩
    · rw [hg] at hx; exact absurd rfl hx
    refine ⟨_, rfl, _, H.cell?_of tr.cell 4, id, H.cell?_of d0 0, ?_⟩
    refine sem_del mapTy tr.map fun o hmap => ?_
    obtain ⟨u10, hu10⟩ : ∃ u10, u10 = u1.ins T.m o := ⟨_, rfl⟩
    rw [← hu10] at hmap ⊢
    have mb : ∀ {c}, fp c ≠ some .map → c ≠ T.m := fun hc e => hc (by rw [e]; exact tr.mtag)
    have e10 : ∀ c o, u1 c = some o → c ≠ T.m → u10 c = some o := fun c o' hc hne => by rw [hu10, H.ins_other _ _ hne]; exact hc
    have m10 : u10 T.m = some o := by rw [hu10]; exact H.ins_same _ _ _
    have n0m : n0 ≠ T.m := fun e => by
      have := h.known T.m (by rw [h.tr.mtag]; simp)
      rw [← e] at this; exact this hn0
    intro n11 hn11
    refine st_new (zs := [.nilFunc]) rfl (by simp [Value.oneCell']) ?_
    obtain ⟨o11, ho11⟩ : ∃ o11, o11 = (Obj.cells [Value.func (.func 209) #[] #[.pointer (some ⟨n0, 0, none⟩), .pointer (some ⟨n11, 0, none⟩)]].toArray 268 (0, 0)) := ⟨_, rfl⟩
    rw [← ho11]
    obtain ⟨u12, hu12⟩ : ∃ u12, u12 = u10.ins n11 o11 := ⟨_, rfl⟩
    rw [← hu12]
    have l12 : u10.le u12 := by rw [hu12]; exact H.le_ins _ hn11
    have d11 : u12 n11 = some o11 := by rw [hu12]; exact H.ins_same _ _ _
    have e12 : ∀ c o', u1 c = some o' → c ≠ T.m → u12 c = some o' := fun c o' hc hne => l12 c o' (e10 c o' hc hne)
    have c12 : u12 b = some (.cells (treeC T).toArray 108 (0, 0)) := e12 b _ tr.cell (mb (by rw [tr.btag]; simp))
    -- there is a root
    obtain ⟨n, hn⟩ : ∃ n, T.root = some n := by
      cases hr : T.root with
      | some n => exact ⟨n, rfl⟩
      | none =>
        have h1 := hT.rows.length_eq
        unfold rootAll at h1
        rw [hr] at h1
        have h2 := List.length_pos_of_mem he
        simp [ixRows] at h1
        omega
    obtain ⟨q1, q2, q3, q4⟩ := tr.one n hn
    have hcr : u12.cell? ((Addr.mk b 0 none).add 3) = some (.pointer (some ⟨n.b, 0, none⟩)) := by
      have hx : treeC T = [.int .i64 T.dim, .int .i64 T.leaf, .pointer (some ⟨T.src, 0, none⟩), .pointer (some ⟨n.b, 0, none⟩), .map (some T.m)] := by simp [treeC, hn]
      rw [hx] at c12
      exact H.cell?_of c12 3
    refine ⟨_, rfl, _, by rw [ho11] at d11; exact H.cell?_of d11 0, _, hcr, _, _, _, rfl, bodyOf bDrop, ?_⟩
    -- what the drop leaves alone
    obtain ⟨ub, hub⟩ : ∃ ub : H, ub = fun c => open Classical in if c ∈ n.own then none else u12 c := ⟨_, rfl⟩
    have ub1 : ∀ {c}, c ∈ n.own → ub c = none := fun hc => by rw [hub]; exact if_pos hc
    have ub2 : ∀ {c}, c ∉ n.own → ub c = u12 c := fun hc => by rw [hub]; exact if_neg hc
    have lub : ub.le u12 := fun c o' hc => by
      by_cases e : c ∈ n.own
      · rw [ub1 e] at hc; cases hc
      · rw [ub2 e] at hc; exact hc
    have notown : ∀ {c}, fp c ≠ some .node → c ∉ n.own := fun hc e => hc (q3 _ e)
    have n0own : n0 ∉ n.own := fun e => h.known n0 (by rw [q3 n0 e]; simp) hn0
    have n11own : n11 ∉ n.own := fun e => by
      have h1 := i1.known n11 (by rw [q3 n11 e]; simp)
      obtain ⟨o', ho'⟩ := Option.ne_none_iff_exists'.1 h1
      have := e10 n11 o' ho' (mb (by rw [q3 n11 e]; simp))
      rw [hn11] at this; cases this
    have hc0 : ub.cell? ⟨n0, 0, none⟩ = some (.int .i64 id) := by
      have z0 : ub n0 = some (.cells #[.int .i64 id] 3 (0, 0)) := by rw [ub2 n0own]; exact e12 _ _ d0 n0m
      exact H.cell?_of z0 0
    have hc1 : ub.cell? ⟨n11, 0, none⟩ = some (.func (.func 209) #[] #[.pointer (some ⟨n0, 0, none⟩), .pointer (some ⟨n11, 0, none⟩)]) := by
      have z1 : ub n11 = some o11 := by rw [ub2 n11own]; exact d11
      rw [ho11] at z1
      exact H.cell?_of z1 0
    have hph : ∀ x ∈ n.heads, PhAt u12 x := fun x hx => (q1 x hx).keep (fun c o' hc ho' => e12 c o' ho' (mb (by rw [q3 c (List.mem_flatMap.2 ⟨x, hx, hc⟩)]; simp))) fun r hr => Seg.else ((q1 x hx).vec r hr) fun g o' hg ho' => e12 g o' ho' (mb (by rw [q4 x hx r hr g hg]; simp))
    have hvec : ∀ x ∈ n.heads, ∀ r ∈ x.1.rows, Ints ub r.s r.v := fun x hx r hr => Seg.else ((q1 x hx).vec r hr) fun g o' hg ho' => by
      rw [ub2 (notown (by rw [q4 x hx r hr g hg]; simp))]
      exact e12 g o' ho' (mb (by rw [q4 x hx r hr g hg]; simp))
    have hsz := hT.size n hn
    refine spec.drop hc0 hc1 n lub hph q2 (fun c hc => ub1 hc) hvec (by omega) fun u16 n' hd hel hkn => ?_
    have e16 : ∀ c o', u1 c = some o' → c ≠ T.m → c ∉ n.own → u16 c = some o' := fun c o' hc hne hno' => hel c o' (e12 c o' hc hne) hno'
    have b16 : u16 b = some (.cells (treeC T).toArray 108 (0, 0)) := e16 b _ tr.cell (mb (by rw [tr.btag]; simp)) (notown (by rw [tr.btag]; simp))
    have hmap16 : MapAt u16 T.m (entL (T.w.filter fun e => e.1 != id)) := by
      rw [← ent_filter]
      exact hmap.else fun o' ho' => hel _ _ (l12 _ _ ho') (notown (by rw [tr.mtag]; simp))
    have vec16 : ∀ {s : Sl} {v : List Int}, Ints u1 s v → (∀ g, s.blk = some g → fp g = some .vec) → Ints u16 s v := fun hi hg => Seg.else hi fun g o' hg' ho' => e16 g o' ho' (mb (by rw [hg g hg']; simp)) (notown (by rw [hg g hg']; simp))
    obtain ⟨T', hT'⟩ : ∃ T' : Tr, T' = { T with root := some n', w := T.w.filter fun e => e.1 != id } := ⟨_, rfl⟩
    have hfil : ixRows T' = (ixRows T).filter fun x => x.1 != id := by
      rw [hT']
      unfold ixRows
      rw [List.filter_map]
      rfl
    have k16 : ∀ c, u1 c ≠ none → u16 c ≠ none := fun c hc => hkn c fun e => by
      by_cases e2 : c = T.m
      · rw [e2, l12 _ _ m10] at e; cases e
      · obtain ⟨o', ho'⟩ := Option.ne_none_iff_exists'.1 hc
        rw [e12 c o' ho' e2] at e; cases e
    refine hyes hin u16 fp T' ⟨⟨?_, fun c o' hc => ?_, h.out, fun c hc => k16 c (i1.known c hc)⟩, ⟨fun c o' hc hf => e16 c o' (l1 c o' hc) (mb (by rw [hf]; simp)) (notown (by rw [hf]; simp)), fun c hc => .inl hc⟩, ?_, hfil, by rw [hT'], by rw [hT'], by rw [hT']⟩
    · subst hT'
      refine ⟨?_, tr.btag, hmap16, tr.mtag, tr.src.elim fun st hs => ⟨st, e16 _ _ hs (mb (by rw [tr.stag]; simp)) (notown (by rw [tr.stag]; simp))⟩, tr.stag, fun e' he' => ?_, fun n2 hn2 => ?_⟩
      · rw [b16]
        simp [treeC, hn, hd.b]
      · obtain ⟨v1, v2⟩ := tr.vec e' (List.mem_filter.1 he').1
        exact ⟨vec16 v1 v2, v2⟩
      · obtain rfl := Option.some.inj (show some n' = some n2 from hn2)
        exact ⟨hd.one, by rw [hd.own]; exact q2, fun c hc => q3 c (by rw [← hd.own]; exact hc), fun x hx r hr g hg => by
          obtain ⟨y, hy, hry⟩ := hd.rows x hx r hr
          exact q4 y hy r hry g hg⟩
    · have hf0 := h.out
      have h1 := h.le c o' hc
      have hf : fp c = none := by
        cases e : fp c with
        | none => rfl
        | some t => have := h.out c (by rw [e]; simp); rw [hc] at this; cases this
      exact e16 c o' (l1 c o' h1) (mb (by rw [hf]; simp)) (notown (by rw [hf]; simp))
    · have hpt := hT.ok n hn
      refine ⟨by rw [hT']; exact hT.dm, by rw [hT']; exact hT.lf, fun e' he' => ?_, fun e' he' => ?_, ?_, ?_, fun n2 hn2 => ?_, fun n2 hn2 => ?_, fun n2 hn2 => ?_, fun n2 hn2 => ?_⟩
      · rw [hT'] at he'; exact hT.ids e' (List.mem_filter.1 he').1
      · rw [hT'] at he' ⊢; exact hT.vec e' (List.mem_filter.1 he').1
      · rw [hT']; exact Nat.le_trans (List.length_filter_le _ _) hT.small
      · rw [hfil]
        have hr := hT.rows
        rw [hT']
        unfold rootAll at hr ⊢
        rw [hn] at hr
        show n'.pt.all.Perm _
        rw [hd.pt, Pt.del_all]
        exact hr.filter _
      · rw [hT'] at hn2 ⊢
        obtain rfl := Option.some.inj (show some n' = some n2 from hn2)
        rw [hd.pt]
        exact Pt.del_ok hpt
      · rw [hT'] at hn2
        obtain rfl := Option.some.inj (show some n' = some n2 from hn2)
        rw [hd.pt]
        exact (hT.shp n hn).del
      · rw [hT'] at hn2
        obtain rfl := Option.some.inj (show some n' = some n2 from hn2)
        rw [hd.pt]
        exact (hT.bin n hn).del
      · rw [hT'] at hn2 ⊢
        obtain rfl := Option.some.inj (show some n' = some n2 from hn2)
        rw [← PN.pt_size, hd.pt, Pt.del_size, PN.pt_size]
        exact hsz

end Go.Proofs.YtbohcdjoglidhaaGreatDoor.Vp

/- VcPop -/
namespace Go.Proofs.YtbohcdjoglidhaaGreatDoor

theorem spec.pop_part {v u : H} {n : Nat} {l : List Op1} {K : Value → H → Prop} (h : PQ v u n l) (hh : Hp blt l.length l) (hne : 0 < l.length)
    (hK : ∀ u' m, PQ v u' n (popF blt l) → PartAt v m (l.getD 0 default).2 → K (queI ((⟨m, 0, none⟩ : Addr), l.getD 0 default)) u') : C.heap_Pop (queV n) u K := by
  obtain ⟨L, hQ, hL, hall⟩ := h.ex
  have hlen : L.length = l.length := by rw [← hL, List.length_map]
  have hget : ∀ i, l.getD i default = (L.getD i default).2 := fun i => by
    rw [← hL]
    exact getD_map' (f := fun e : QE => e.2) rfl L i
  have hhL : Hp qlt L.length L := fun i i0 i1 => by
    have := hh i i0 (by omega)
    rw [hget, hget] at this
    exact this
  obtain ⟨p1, _, _, _⟩ := popF_ok queLt hhL (by omega)
  refine spec.heap_PopF (queHeap v n) queLt (V := queI) hQ hhL (by omega) (fun {u' l' x K'} hs hk => ?_) fun u' hs => ?_
  · refine que_pop hs (by simp) fun u'' hs'' => ?_
    rw [List.dropLast_concat] at hs''
    have e : (l' ++ [x]).getD ((l' ++ [x]).length - 1) default = x := by
      rw [List.getD_eq_getElem?_getD]
      simp
    rw [e]
    exact hk u'' hs''
  · have h0 : L.getD 0 default ∈ L := by
      rw [List.getD_eq_getElem?_getD, List.getElem?_eq_getElem (by omega)]
      exact List.getElem_mem (by omega)
    obtain ⟨m, hm, hp⟩ := hall _ h0
    have e : L.getD 0 default = ((⟨m, 0, none⟩ : Addr), l.getD 0 default) := by rw [hget, ← hm]
    rw [e]
    refine hK u' m ⟨popF qlt L, hs, ?_, fun y hy => hall y (p1.mem_iff.1 (List.mem_cons_of_mem _ hy))⟩ (by rw [hget]; exact hp)
    have e2 := popF_map (α := QE) (β := Op1) (lt := qlt) (lt' := blt) (f := fun e : QE => e.2) rfl (fun _ _ => rfl) L
    rw [hL] at e2
    exact e2

end Go.Proofs.YtbohcdjoglidhaaGreatDoor

/- VcRest -/
namespace Go.Proofs.YtbohcdjoglidhaaGreatDoor

theorem tRegs' : elemT Tryz.prog 35 = some (69, 6, 96, [.int .i64 0, .slice none 0 0, .slice none 0 0, .int .u64 0, .int .u64 0, .slice none 0 0]) := by kernel_rfl

structure RestAt (u0 u : H) (sr : Sl) (rest : List Rgn) : Prop where
  own : OwnF u0 u 69 6 sr (rest.flatMap encG)
  each : ∀ r ∈ rest, Own3 u0 u r
  far : (sr :: rest.flatMap Rgn.sls).Pairwise Far

theorem RestAt.mono {u0 u u' : H} {sr : Sl} {rest : List Rgn} (h : RestAt u0 u sr rest) (k : u.le u') : RestAt u0 u' sr rest :=
  ⟨h.own.mono k, fun r hr => ⟨(h.each r hr).l.mono k, (h.each r hr).h.mono k, (h.each r hr).i.mono k⟩, h.far⟩

theorem RestAt.nil {u0 u : H} (h : u0.le u) : RestAt u0 u ⟨none, 0, 0⟩ [] := ⟨OwnF.nil h _ _, fun r hr => (by cases hr), by rw [List.flatMap_nil]; exact List.pairwise_singleton _ _⟩

/-- Every slice of regions of one's own is known. -/
theorem own3_sls {u0 u : H} {r : Rgn} (h : Own3 u0 u r) : ∀ s ∈ r.sls, ∃ xs, OwnF u0 u 3 1 s xs := by
  intro s hs
  simp only [Rgn.sls, List.mem_cons, List.not_mem_nil, or_false] at hs
  rcases hs with rfl | rfl | rfl
  · exact ⟨_, h.l⟩
  · exact ⟨_, h.h⟩
  · exact ⟨_, h.i⟩

theorem rest_push {u0 u1 u : H} {sr : Sl} {rest : List Rgn} {r : Rgn} {K : Sl → H → Prop} (h : RestAt u0 u1 sr rest) (hu : u1.le u) (hr : Own3 u1 u r) (f1 : Far r.ls r.hs) (f2 : Far r.ls r.is) (f3 : Far r.hs r.is) (hl : rest.length ≤ 10000000)
    (hK : ∀ s' u', RestAt u0 u' s' (rest ++ [r]) → Else u u' sr → (∀ g, s'.blk = some g → sr.blk = some g ∨ u g = none) → K s' u') :
    SemT Tryz.prog (Instr.buildSlice 35 1 #[(0, .agg #[.int .i64 r.sh, .slice r.ls.a r.ls.n r.ls.c, .slice r.hs.a r.hs.n r.hs.c, .int .u64 (hiW r.rad), .int .u64 (loW r.rad), .slice r.is.a r.is.n r.is.c])]) [.one .slice] u fun s1 v1 => u.le v1 ∧ SemT Tryz.prog (Builtin.append_ #[35, 35] 35 #[.slice sr.a sr.n sr.c, .slice s1.a s1.n s1.c]) [.one .slice] v1 K := by
  have hm := h.mono hu
  have hn : sr.n = rest.length := flat_n encG_len (by decide) hm.own.own.seg
  have u01 : u0.le u1 := h.own.le
  have hr0 : Own3 u0 u r := ⟨hr.l.weaken u01, hr.h.weaken u01, hr.i.weaken u01⟩
  have hall : ∀ x ∈ rest ++ [r], Own3 u0 u x := fun x hx => by
    rcases List.mem_append.1 hx with hx | hx
    · exact hm.each x hx
    · rw [List.mem_singleton.1 hx]; exact hr0
  have farNew : ∀ s ∈ r.sls, Far sr s ∧ ∀ t ∈ rest.flatMap Rgn.sls, Far t s := fun s hs => by
    obtain ⟨xs, hx⟩ := own3_sls hr s hs
    refine ⟨OwnF.far h.own (H.le.refl u1) hx, fun t ht => ?_⟩
    obtain ⟨y, hy, hty⟩ := List.mem_flatMap.1 ht
    obtain ⟨ys, hy2⟩ := own3_sls (h.each y hy) t hty
    exact OwnF.far hy2 (H.le.refl u1) hx
  have hf := h.far
  rw [List.pairwise_cons] at hf
  refine sem_push tRegs' (build_region r.ls r.hs r.is r.sh (hiW r.rad) (loW r.rad)) (by decide) rfl (by simp [Value.oneCell']) hm.own (by omega) (by omega) fun s' u' ho hn' hel hbl _ => hK s' u' ⟨?_, fun x hx => ?_, ?_⟩ hel hbl
  · rw [List.flatMap_append]
    exact ho
  · have hk : Keep [sr] u u' := fun b o hb hd => hel b o hb (hd sr (List.mem_cons_self ..))
    refine hk.own3 (hall x hx) (fun s hs g hg => by rw [List.mem_singleton.1 hs] at hg; exact hm.own.fresh g hg) fun s hs t ht => ?_
    rw [List.mem_singleton.1 hs]
    rcases List.mem_append.1 hx with hx | hx
    · exact hf.1 t (List.mem_flatMap.2 ⟨x, hx, ht⟩)
    · rw [List.mem_singleton.1 hx] at ht; exact (farNew t ht).1
  · rw [List.flatMap_append, List.pairwise_cons]
    have hsing : [r].flatMap Rgn.sls = r.sls := by simp
    rw [hsing]
    refine ⟨fun t ht => ?_, List.pairwise_append.2 ⟨hf.2, ?_, fun t ht s hs => (farNew s hs).2 t ht⟩⟩
    · intro g hg hg2
      have hfar : Far sr t := by
        rcases List.mem_append.1 ht with h1 | h1
        · exact hf.1 t h1
        · exact (farNew t h1).1
      have hown : ∃ xs, OwnF u0 u 3 1 t xs := by
        rcases List.mem_append.1 ht with h1 | h1
        · obtain ⟨y, hy, hty⟩ := List.mem_flatMap.1 h1
          exact own3_sls (hm.each y hy) t hty
        · exact own3_sls hr0 t h1
      obtain ⟨xs, hx⟩ := hown
      rcases hbl g hg with h1 | h1
      · exact hfar g h1 hg2
      · exact own_known hx hg2 h1
    · simp only [Rgn.sls, List.pairwise_cons, List.mem_cons, List.not_mem_nil, or_false, forall_eq_or_imp, forall_eq, List.Pairwise.nil, and_true]
      exact ⟨⟨f1, f2⟩, f3, fun _ h => h.elim⟩

end Go.Proofs.YtbohcdjoglidhaaGreatDoor

/- VcWlk0 -/
namespace Go.Proofs.YtbohcdjoglidhaaGreatDoor

/-- What lies beside a part of memory that turns. -/
theorem Framed.beside {v a u a' u' b : H} (hf : Framed a u a' u') (hva' : v.le a') (hb : b.le u) (hvb : v.le b) (hap : ∀ c, a c ≠ none → b c ≠ none → v c ≠ none) : b.le u' ∧ ∀ c, a' c ≠ none → b c ≠ none → v c ≠ none := by
  refine ⟨fun c o hc => ?_, fun c h1 h2 => ?_⟩
  · cases e : a c with
    | none => exact (hf.out c o e (hb c o hc)).2
    | some o' =>
      obtain ⟨o2, h2⟩ := Option.ne_none_iff_exists'.1 (hap c (by rw [e]; simp) (by rw [hc]; simp))
      have h3 := hvb c o2 h2
      rw [hc] at h3
      cases h3
      exact hf.le c o (hva' c o h2)
  · cases e : a c with
    | none =>
      obtain ⟨o, ho⟩ := Option.ne_none_iff_exists'.1 h2
      exact absurd (hf.out c o e (hb c o ho)).1 h1
    | some o' => exact hap c (by rw [e]; simp) h2

structure WI (v u : H) (N n6 : Nat) (k : Int) (S : List Hit) (l : List Op1) (ids : List Int) (ss sr : Sl) (R : List Rgn) : Prop where
  ex : ∃ uT uQ, uT.le u ∧ uQ.le u ∧ v.le uT ∧ v.le uQ ∧ (∀ c, uT c ≠ none → uQ c ≠ none → v c ≠ none) ∧ TopAt v N k uT S ∧ PQ v uQ n6 l ∧ (∀ s ∈ ss :: sr :: R.flatMap Rgn.sls, ∀ g, s.blk = some g → uT g = none ∧ uQ g = none)
  seen : OwnF v u 3 1 ss (ids.flatMap encI)
  rest : RestAt v u sr R
  far : ∀ s ∈ sr :: R.flatMap Rgn.sls, Far ss s

theorem WI.le {v u : H} {N n6 : Nat} {k : Int} {S : List Hit} {l : List Op1} {ids : List Int} {ss sr : Sl} {R : List Rgn} (h : WI v u N n6 k S l ids ss sr R) : v.le u := h.seen.le

/-- All slices of one's own are known. -/
theorem WI.known {v u : H} {N n6 : Nat} {k : Int} {S : List Hit} {l : List Op1} {ids : List Int} {ss sr : Sl} {R : List Rgn} (h : WI v u N n6 k S l ids ss sr R) : ∀ s ∈ ss :: sr :: R.flatMap Rgn.sls, ∀ g, s.blk = some g → u g ≠ none := by
  intro s hs g hg
  rcases List.mem_cons.1 hs with rfl | hs
  · exact own_known h.seen hg
  · rcases List.mem_cons.1 hs with rfl | hs
    · exact own_known h.rest.own hg
    · obtain ⟨y, hy, hty⟩ := List.mem_flatMap.1 hs
      obtain ⟨xs, hx⟩ := own3_sls (h.rest.each y hy) s hty
      exact own_known hx hg

/-- Slices of one's own stay where their blocks do. -/
theorem RestAt.stay {v u u' : H} {sr : Sl} {R : List Rgn} (h : RestAt v u sr R) (hv : v.le u') (hs : ∀ s ∈ sr :: R.flatMap Rgn.sls, ∀ g o, s.blk = some g → u g = some o → u' g = some o) : RestAt v u' sr R := by
  have one : ∀ {e k : Nat} {s : Sl} {xs : List Value}, OwnF v u e k s xs → s ∈ sr :: R.flatMap Rgn.sls → OwnF v u' e k s xs := fun ho hm => ⟨ho.own.le fun b o hb hu => hs _ hm b o hb hu, hv, ho.fresh⟩
  refine ⟨one h.own (List.mem_cons_self ..), fun r hr => ?_, h.far⟩
  have hm : ∀ s ∈ r.sls, s ∈ sr :: R.flatMap Rgn.sls := fun s hs => List.mem_cons_of_mem _ (List.mem_flatMap.2 ⟨r, hr, hs⟩)
  exact ⟨one (h.each r hr).l (hm _ (by simp [Rgn.sls])), one (h.each r hr).h (hm _ (by simp [Rgn.sls])), one (h.each r hr).i (hm _ (by simp [Rgn.sls]))⟩

theorem spec.wi_Offer {v u : H} {N n6 : Nat} {k : Int} {S : List Hit} {l : List Op1} {ids : List Int} {ss sr : Sl} {R : List Rgn} {x : Hit} {K : Bool → H → Prop} (h : WI v u N n6 k S l ids ss sr R) (k1 : 1 ≤ k) (k2 : k ≤ 64)
    (hK : ∀ b u', WI v u' N n6 k (x :: S) l ids ss sr R → K b u') : C.topk_Heap__Offer (some ⟨N, 0, none⟩) x.1 (hiW x.2) (loW x.2) u K := by
  obtain ⟨uT, uQ, t1, q1, t2, q2, hap, hT, hQ, hfr⟩ := h.ex
  have hc := spec.topk_Heap__Offer (K := fun _ u' => TopAt v N k u' (x :: S)) hT k1 k2 fun b u' h' => h'
  refine hc.frame t1 ?_
  intro b uT' u' hf hT'
  have hv' := hT'.le
  obtain ⟨b1, b2⟩ := hf.beside hv' q1 q2 hap
  have stay : ∀ s ∈ ss :: sr :: R.flatMap Rgn.sls, ∀ g o, s.blk = some g → u g = some o → uT' g = none ∧ u' g = some o := fun s hs g o hg ho => hf.out g o (hfr s hs g hg).1 ho
  refine hK b u' ⟨⟨uT', uQ, hf.le, b1, hv', q2, b2, hT', hQ, fun s hs g hg => ?_⟩, ⟨h.seen.own.le fun g o hg ho => (stay _ (List.mem_cons_self ..) g o hg ho).2, hv'.trans hf.le, h.seen.fresh⟩, h.rest.stay (hv'.trans hf.le) fun s hs g o hg ho => (stay s (List.mem_cons_of_mem _ hs) g o hg ho).2, h.far⟩
  obtain ⟨o, ho⟩ := Option.ne_none_iff_exists'.1 (h.known s hs g hg)
  exact ⟨(stay s hs g o hg ho).1, (hfr s hs g hg).2⟩

/-- A step of the queue. -/
theorem WI.queue {v u uT uQ uQ' u' : H} {N n6 : Nat} {k : Int} {S : List Hit} {l l' : List Op1} {ids : List Int} {ss sr : Sl} {R : List Rgn} (h : WI v u N n6 k S l ids ss sr R) (t1 : uT.le u) (t2 : v.le uT) (hap : ∀ c, uT c ≠ none → uQ c ≠ none → v c ≠ none)
    (hT : TopAt v N k uT S) (hfr : ∀ s ∈ ss :: sr :: R.flatMap Rgn.sls, ∀ g, s.blk = some g → uT g = none ∧ uQ g = none) (hf : Framed uQ u uQ' u') (hv' : v.le uQ') (hQ' : PQ v uQ' n6 l') : WI v u' N n6 k S l' ids ss sr R := by
  obtain ⟨b1, b2⟩ := hf.beside hv' t1 t2 fun c h1 h2 => hap c h2 h1
  have stay : ∀ s ∈ ss :: sr :: R.flatMap Rgn.sls, ∀ g o, s.blk = some g → u g = some o → uQ' g = none ∧ u' g = some o := fun s hs g o hg ho => hf.out g o (hfr s hs g hg).2 ho
  refine ⟨⟨uT, uQ', b1, hf.le, t2, hv', fun c h1 h2 => b2 c h2 h1, hT, hQ', fun s hs g hg => ?_⟩, ⟨h.seen.own.le fun g o hg ho => (stay _ (List.mem_cons_self ..) g o hg ho).2, hv'.trans hf.le, h.seen.fresh⟩, h.rest.stay (hv'.trans hf.le) fun s hs g o hg ho => (stay s (List.mem_cons_of_mem _ hs) g o hg ho).2, h.far⟩
  obtain ⟨o, ho⟩ := Option.ne_none_iff_exists'.1 (h.known s hs g hg)
  exact ⟨(hfr s hs g hg).1, (stay s hs g o hg ho).1⟩

end Go.Proofs.YtbohcdjoglidhaaGreatDoor

/- VcWlk1 -/
namespace Go.Proofs.YtbohcdjoglidhaaGreatDoor

theorem PQ.le {v u : H} {n : Nat} {l : List Op1} (h : PQ v u n l) : v.le u := by
  obtain ⟨L, hQ, _, _⟩ := h.ex
  obtain ⟨s, _, ho, _⟩ := hQ.ex
  exact ho.le

theorem spec.wi_add {v u : H} {N n6 n0 m : Nat} {k : Int} {S : List Hit} {l : List Op1} {ids : List Int} {ss sr : Sl} {R : List Rgn} {s : Sl} {q : List Int} {p : Pt} {K : H → Prop} (h : WI v u N n6 k S l ids ss sr R) (hl : l.length < 10000000) (hp : PartAt v m p)
    (hok : RegOk (p.rgn []) q.length) (hq : vok q) (hn0 : v.cell? ⟨n0, 0, none⟩ = some (.slice s.a s.n s.c)) (hs : Ints v s q) (hK : ∀ u', WI v u' N n6 k S (addW q l p) ids ss sr R → K u') : C.flat_Walk_1 (some ⟨m, 0, none⟩) ⟨n0, 0, none⟩ ⟨n6, 0, none⟩ u K := by
  obtain ⟨uT, uQ, t1, q1, t2, q2, hap, hT, hQ, hfr⟩ := h.ex
  have hc := spec.flat_Walk_1 (K := fun u' => PQ v u' n6 (addW q l p)) hQ q2 hl hp hok hq (q2.cell hn0) (hs.mono q2) fun u' h' => h'
  refine hc.frame q1 ?_
  intro uQ' u' hf hQ'
  exact hK u' (h.queue t1 t2 hap hT hfr hf hQ'.le hQ')

theorem spec.wi_pop {v u : H} {N n6 : Nat} {k : Int} {S : List Hit} {l : List Op1} {ids : List Int} {ss sr : Sl} {R : List Rgn} {K : Value → H → Prop} (h : WI v u N n6 k S l ids ss sr R) (hh : Hp blt l.length l) (hne : 0 < l.length)
    (hK : ∀ u' m, WI v u' N n6 k S (popF blt l) ids ss sr R → PartAt v m (l.getD 0 default).2 → K (queI ((⟨m, 0, none⟩ : Addr), l.getD 0 default)) u') : C.heap_Pop (queV n6) u K := by
  obtain ⟨uT, uQ, t1, q1, t2, q2, hap, hT, hQ, hfr⟩ := h.ex
  have hc := spec.pop_part (K := fun x u' => ∃ m, x = queI ((⟨m, 0, none⟩ : Addr), l.getD 0 default) ∧ PQ v u' n6 (popF blt l) ∧ PartAt v m (l.getD 0 default).2) hQ hh hne fun u' m h1 h2 => ⟨m, rfl, h1, h2⟩
  refine hc.frame q1 ?_
  rintro x uQ' u' hf ⟨m, rfl, hQ', hp⟩
  exact hK u' m (h.queue t1 t2 hap hT hfr hf hQ'.le hQ') hp

theorem TopAt.whole {v u uT : H} {N : Nat} {k : Int} {S : List Hit} (h : TopAt v N k uT S) (hu : uT.le u) : TopAt v N k u S := h.mono hu

theorem spec.wi_done {v u : H} {N n6 n4 : Nat} {k hi lo : Int} {S : List Hit} {l : List Op1} {ids : List Int} {ss sr : Sl} {R : List Rgn} {K : Bool → H → Prop} (h : WI v u N n6 k S l ids ss sr R) (k1 : 1 ≤ k) (hd : ∀ g ∈ S, Dok g.2)
    (hn4 : v.cell? ⟨n4, 0, none⟩ = some (.pointer (some ⟨N, 0, none⟩))) (h1 : U64 hi) (h2 : U64 lo) (hK : ∀ bb : Bool, (bb = true ↔ k ≤ (S.length : Int) ∧ ((topk k.toNat S).getD (k.toNat - 1) default).2 < wv hi lo) → K bb u) : C.flat_Walk_2 hi lo ⟨n4, 0, none⟩ u K := by
  obtain ⟨uT, uQ, t1, q1, t2, q2, hap, hT, hQ, hfr⟩ := h.ex
  exact spec.flat_Walk_2 (hT.whole t1) k1 hd (h.le.cell hn4) h1 h2 hK

end Go.Proofs.YtbohcdjoglidhaaGreatDoor

/- VcWlk2 -/
namespace Go.Proofs.YtbohcdjoglidhaaGreatDoor

theorem le_none {a u : H} (h : a.le u) {g : Nat} (hg : u g = none) : a g = none := by
  cases e : a g with
  | none => rfl
  | some o => have := h g o e; rw [hg] at this; cases this

/-- An id more is seen. -/
theorem wi_see {v u : H} {N n6 : Nat} {k : Int} {S : List Hit} {l : List Op1} {ids : List Int} {ss sr : Sl} {R : List Rgn} {x : Int} {K : Sl → H → Prop} (h : WI v u N n6 k S l ids ss sr R) (hl : ids.length < 10000000)
    (hK : ∀ s' u', WI v u' N n6 k S l (ids ++ [x]) s' sr R → K s' u') :
    SemT Tryz.prog (Instr.buildSlice 22 1 #[(0, .int .i64 x)]) [.one .slice] u fun s1 u1 => SemT Tryz.prog (Builtin.append_ #[22, 22] 22 #[.slice ss.a ss.n ss.c, .slice s1.a s1.n s1.c]) [.one .slice] u1 K := by
  obtain ⟨uT, uQ, t1, q1, t2, q2, hap, hT, hQ, hfr⟩ := h.ex
  have hn := h.seen.ints.len
  refine sem_push' tInts (build_int _) (by decide) rfl (by simp [Value.oneCell']) h.seen (by omega) (by omega) fun s' u' ho hn' hel hbl _ => hK s' u' ?_
  have fresh : ∀ g, s'.blk = some g → uT g = none ∧ uQ g = none := fun g hg => by
    rcases hbl g hg with h1 | h1
    · exact hfr ss (List.mem_cons_self ..) g h1
    · exact ⟨le_none t1 h1, le_none q1 h1⟩
  have stayO : ∀ {w : H}, w.le u → (∀ g, ss.blk = some g → w g = none) → w.le u' := fun hw hg b o hb => hel b o (hw b o hb) fun e => by rw [hg b e] at hb; cases hb
  have far' : ∀ s ∈ sr :: R.flatMap Rgn.sls, Far s' s := fun s hs g hg hg2 => by
    rcases hbl g hg with h1 | h1
    · exact h.far s hs g h1 hg2
    · exact h.known s (List.mem_cons_of_mem _ hs) g hg2 h1
  refine ⟨⟨uT, uQ, stayO t1 fun g hg => (hfr ss (List.mem_cons_self ..) g hg).1, stayO q1 fun g hg => (hfr ss (List.mem_cons_self ..) g hg).2, t2, q2, hap, hT, hQ, fun s hs g hg => ?_⟩, ?_, h.rest.stay ho.le fun s hs g o hg ho' => hel g o ho' fun e => h.far s hs g e hg, far'⟩
  · rcases List.mem_cons.1 hs with rfl | hs
    · exact fresh g hg
    · exact hfr s (List.mem_cons_of_mem _ hs) g hg
  · rw [List.flatMap_append]
    exact ho

/-- A region more is left. -/
theorem wi_left {v u w : H} {N n6 : Nat} {k : Int} {S : List Hit} {l : List Op1} {ids : List Int} {ss sr : Sl} {R : List Rgn} {r : Rgn} {K : Sl → H → Prop} (h : WI v u N n6 k S l ids ss sr R) (hw : u.le w) (hr : Own3 u w r) (f1 : Far r.ls r.hs) (f2 : Far r.ls r.is) (f3 : Far r.hs r.is) (hl : R.length ≤ 10000000)
    (hK : ∀ s' u', WI v u' N n6 k S l ids ss s' (R ++ [r]) → Else w u' sr → (∀ g, s'.blk = some g → sr.blk = some g ∨ w g = none) → K s' u') :
    SemT Tryz.prog (Instr.buildSlice 35 1 #[(0, .agg #[.int .i64 r.sh, .slice r.ls.a r.ls.n r.ls.c, .slice r.hs.a r.hs.n r.hs.c, .int .u64 (hiW r.rad), .int .u64 (loW r.rad), .slice r.is.a r.is.n r.is.c])]) [.one .slice] w fun s1 v1 => w.le v1 ∧ SemT Tryz.prog (Builtin.append_ #[35, 35] 35 #[.slice sr.a sr.n sr.c, .slice s1.a s1.n s1.c]) [.one .slice] v1 K := by
  obtain ⟨uT, uQ, t1, q1, t2, q2, hap, hT, hQ, hfr⟩ := h.ex
  refine rest_push h.rest hw hr f1 f2 f3 hl fun s' u' hR hel hbl => hK s' u' ?_ hel hbl
  have newS : ∀ s ∈ r.sls, ∃ xs, OwnF u w 3 1 s xs := own3_sls hr
  have fresh : ∀ s ∈ ss :: s' :: (R ++ [r]).flatMap Rgn.sls, ∀ g, s.blk = some g → uT g = none ∧ uQ g = none := fun s hs g hg => by
    rcases List.mem_cons.1 hs with rfl | hs
    · exact hfr _ (List.mem_cons_self ..) g hg
    · rcases List.mem_cons.1 hs with rfl | hs
      · rcases hbl g hg with h1 | h1
        · exact hfr sr (by simp) g h1
        · exact ⟨le_none (t1.trans hw) h1, le_none (q1.trans hw) h1⟩
      · rw [List.flatMap_append] at hs
        rcases List.mem_append.1 hs with hs | hs
        · exact hfr s (by simp only [List.mem_cons]; exact .inr (.inr hs)) g hg
        · obtain ⟨xs, hx⟩ := newS s (by simpa using hs)
          exact ⟨le_none t1 (hx.fresh g hg), le_none q1 (hx.fresh g hg)⟩
  have farR : Far ss sr := h.far sr (List.mem_cons_self ..)
  have keep : ∀ {z : H}, z.le u → (∀ g, sr.blk = some g → z g = none) → z.le u' := fun hz hg b o hb => hel b o (hw b o (hz b o hb)) fun e => by rw [hg b e] at hb; cases hb
  refine ⟨⟨uT, uQ, keep t1 fun g hg => (hfr sr (by simp) g hg).1, keep q1 fun g hg => (hfr sr (by simp) g hg).2, t2, q2, hap, hT, hQ, fresh⟩, ⟨h.seen.own.le fun b o hb ho => hel b o (hw b o ho) fun e => farR b hb e, hR.own.le, h.seen.fresh⟩, hR, fun s hs => ?_⟩
  rcases List.mem_cons.1 hs with rfl | hs
  · intro g hg hg2
    rcases hbl g hg2 with h1 | h1
    · exact farR g hg h1
    · have := own_known h.seen hg
      exact this (le_none hw h1)
  · rw [List.flatMap_append] at hs
    rcases List.mem_append.1 hs with hs | hs
    · exact h.far s (List.mem_cons_of_mem _ hs)
    · obtain ⟨xs, hx⟩ := newS s (by simpa using hs)
      exact OwnF.far h.seen (H.le.refl u) hx

end Go.Proofs.YtbohcdjoglidhaaGreatDoor

/- VcWlk3 -/
namespace Go.Proofs.YtbohcdjoglidhaaGreatDoor

/-- The queue as it lies there. -/
theorem PQ.slice {v u : H} {n : Nat} {l : List Op1} (h : PQ v u n l) : ∃ s : Sl, u.cell? ⟨n, 0, none⟩ = some (.slice s.a s.n s.c) ∧ s.n = l.length ∧ ∀ x : Int, 0 ≤ x → x < (s.n : Int) → ∃ p m e, s.a = some p ∧ l[x.toNat]? = some e ∧ PartAt v m e.2 ∧
    u.cell? (p.add (x.toNat * 3)) = some (.pointer (some ⟨m, 0, none⟩)) ∧ u.cell? ((p.add (x.toNat * 3)).add 1) = some (.int .u64 (hiW e.1)) ∧ u.cell? ((p.add (x.toNat * 3)).add 2) = some (.int .u64 (loW e.1)) := by
  obtain ⟨L, hQ, hL, hall⟩ := h.ex
  obtain ⟨s, hn, ho, _⟩ := hQ.ex
  refine ⟨s, H.cell?_of hn 0, by rw [ho.qs.len, ← hL, List.length_map], fun x x0 x1 => ?_⟩
  obtain ⟨p, hp, y, hy, c0, c1, c2⟩ := ho.qs.at x0 x1
  obtain ⟨m, hm, hpart⟩ := hall y (List.mem_of_getElem? hy)
  refine ⟨p, m, y.2, hp, by rw [← hL, List.getElem?_map, hy]; rfl, hpart, ?_, c1, c2⟩
  rw [hm] at c0
  exact c0

theorem WI.slice {v u : H} {N n6 : Nat} {k : Int} {S : List Hit} {l : List Op1} {ids : List Int} {ss sr : Sl} {R : List Rgn} (h : WI v u N n6 k S l ids ss sr R) : ∃ s : Sl, u.cell? ⟨n6, 0, none⟩ = some (.slice s.a s.n s.c) ∧ s.n = l.length ∧ ∀ x : Int, 0 ≤ x → x < (s.n : Int) → ∃ p m e, s.a = some p ∧ l[x.toNat]? = some e ∧ PartAt v m e.2 ∧
    u.cell? (p.add (x.toNat * 3)) = some (.pointer (some ⟨m, 0, none⟩)) ∧ u.cell? ((p.add (x.toNat * 3)).add 1) = some (.int .u64 (hiW e.1)) ∧ u.cell? ((p.add (x.toNat * 3)).add 2) = some (.int .u64 (loW e.1)) := by
  obtain ⟨uT, uQ, t1, q1, t2, q2, hap, hT, hQ, hfr⟩ := h.ex
  obtain ⟨s, h1, h2, h3⟩ := hQ.slice
  refine ⟨s, q1.cell h1, h2, fun x x0 x1 => ?_⟩
  obtain ⟨p, m, e, g1, g2, g3, g4, g5, g6⟩ := h3 x x0 x1
  exact ⟨p, m, e, g1, g2, g3, q1.cell g4, q1.cell g5, q1.cell g6⟩

theorem WI.mono {v u u' : H} {N n6 : Nat} {k : Int} {S : List Hit} {l : List Op1} {ids : List Int} {ss sr : Sl} {R : List Rgn} (h : WI v u N n6 k S l ids ss sr R) (hu : u.le u') : WI v u' N n6 k S l ids ss sr R := by
  obtain ⟨uT, uQ, t1, q1, t2, q2, hap, hT, hQ, hfr⟩ := h.ex
  exact ⟨⟨uT, uQ, t1.trans hu, q1.trans hu, t2, q2, hap, hT, hQ, hfr⟩, h.seen.mono hu, h.rest.mono hu, h.far⟩

end Go.Proofs.YtbohcdjoglidhaaGreatDoor

/- VcWalkS -/
namespace Go.Proofs.YtbohcdjoglidhaaGreatDoor

/-- What a region of a part tells, with ids of rows. -/
def coreW (x : Pt × List Prw) : Int × Int × List Int × List Int × List Int := (x.1.sh, x.1.rad, x.1.lo, x.1.hi, sortI (x.2.map (·.1)))

theorem core_rgn {r : Rgn} {p : Pt} {rows : List Prw} (h : r.core = coreW (p, rows)) : r.sh = p.sh ∧ r.rad = p.rad ∧ r.lo = p.lo ∧ r.hi = p.hi ∧ r.ids = sortI (rows.map (·.1)) := by
  simp only [Rgn.core, coreW, Prod.mk.injEq] at h
  exact ⟨h.1, h.2.1, h.2.2.1, h.2.2.2.1, h.2.2.2.2⟩

theorem near_core {r : Rgn} {p : Pt} {rows : List Prw} (h : r.core = coreW (p, rows)) (q : List Int) : nearR r q = nearR (p.rgn []) q := by
  obtain ⟨h1, h2, h3, h4, _⟩ := core_rgn h
  unfold nearR Pt.rgn
  simp only [h1, h2, h3, h4]

theorem inside_core {r : Rgn} {p : Pt} {rows : List Prw} (h : r.core = coreW (p, rows)) {v : List Int} (hi : Inside (p.rgn []) v) : Inside r v := by
  obtain ⟨h1, h2, h3, h4, _⟩ := core_rgn h
  unfold Inside Pt.rgn at *
  simp only [h1, h2, h3, h4] at *
  exact hi

theorem reg_core {r : Rgn} {p : Pt} {rows : List Prw} {d : Int} (h : r.core = coreW (p, rows)) (hp : RegOk (p.rgn []) d) (hn : (rows.map (·.1)).Nodup) (hid : ∀ x ∈ rows, 1 ≤ x.1 ∧ x.1 ≤ 1000000000) : RegOk r d := by
  obtain ⟨h1, h2, h3, h4, h5⟩ := core_rgn h
  refine ⟨hp.dim, by rw [h5]; exact sortI_rise hn, fun x hx => ?_, ?_⟩
  · rw [h5] at hx
    obtain ⟨y, hy, rfl⟩ := List.mem_map.1 ((sortI_perm _).mem_iff.1 hx)
    exact hid y hy
  · have := hp.shape
    unfold Pt.rgn at this
    simp only at this
    rw [h1, h2, h3, h4]
    exact this

theorem pick_rows {L : List Rw} : ∀ {S : List Prw}, (∀ x ∈ S, x ∈ L.map Rw.pr) → ∃ m : List Rw, m.map Rw.pr = S ∧ ∀ r ∈ m, r ∈ L := by
  intro S
  induction S with
  | nil => intro _; exact ⟨[], rfl, fun r hr => by cases hr⟩
  | cons x S ih =>
    intro h
    obtain ⟨m, h1, h2⟩ := ih fun y hy => h y (List.mem_cons_of_mem _ hy)
    obtain ⟨r, hr, e⟩ := List.mem_map.1 (h x (List.mem_cons_self ..))
    exact ⟨r :: m, by rw [List.map_cons, h1, e], fun y hy => by
      rcases List.mem_cons.1 hy with rfl | hy
      · exact hr
      · exact h2 y hy⟩

theorem left_flat (s : WS) : (leftW s).flatMap (·.2) = s.rest.flatMap (·.2) ++ s.heap.flatMap fun x => x.2.all := by
  unfold leftW
  rw [List.flatMap_append]
  congr 1
  generalize s.heap = l
  induction l with
  | nil => rfl
  | cons x l ih =>
    rw [List.map_cons, List.filter_cons, List.flatMap_cons]
    cases e : x.2.all with
    | nil => simpa [e] using ih
    | cons y ys => simp only [List.isEmpty_cons, Bool.not_false, if_true, List.flatMap_cons, ih]

theorem left_mem {q : List Int} {b : Int} {P : List Prw} {s : WS} (h : WOk q b P s) : ∀ x ∈ leftW s, PtOk q.length x.1 ∧ x.2 ≠ [] ∧ (∀ y ∈ x.2, y ∈ x.1.all) := by
  intro x hx
  unfold leftW at hx
  rcases List.mem_append.1 hx with h1 | h1
  · exact h.left x h1
  · obtain ⟨h2, h3⟩ := List.mem_filter.1 h1
    obtain ⟨y, hy, rfl⟩ := List.mem_map.1 h2
    refine ⟨(h.near y hy).2, fun e => ?_, fun z hz => hz⟩
    simp only at e
    rw [e] at h3
    cases h3

theorem sub_sum {α β : Type} {f : α → List β} {x : α} : ∀ {l : List α}, x ∈ l → List.Sublist (f x) (l.flatMap f) := by
  intro l
  induction l with
  | nil => intro h; cases h
  | cons y l ih =>
    intro h
    rw [List.flatMap_cons]
    rcases List.mem_cons.1 h with rfl | h
    · exact List.sublist_append_left _ _
    · exact (ih h).trans (List.sublist_append_right _ _)

theorem walk_sound {q : List Int} {k b : Int} {ps : List Pt} {L : List Rw} {rs : List Rgn} (hb : 0 ≤ b) (hk : 1 ≤ k) (hps : ∀ p ∈ ps, PtOk q.length p) (hq : Qok L q) (hL : (L.map Rw.pr).Perm (Pt.allL ps)) (hr : rs.map Rgn.core = (leftW (walkE q k b ps)).map coreW) :
    Sound L q k (topW q k (walkE q k b ps)) (sortI ((walkE q k b ps).seen.map (·.1))) rs ∧ ((sortI ((walkE q k b ps).seen.map (·.1))).length : Int) ≤ b ∧
      (((sortI ((walkE q k b ps).seen.map (·.1))).length : Int) = b ∨ (sortI ((walkE q k b ps).seen.map (·.1))).length = L.length ∨ CertA q k (topW q k (walkE q k b ps)) rs) := by
  obtain ⟨hw, hend⟩ := walkE_ok (k := k) hb hps
  generalize walkE q k b ps = s at *
  have hpl := hw.perm
  rw [← left_flat] at hpl
  have hall := hpl.trans hL.symm
  have hidL : (L.map Rw.pr).map (·.1) = L.map (·.id) := by rw [List.map_map]; rfl
  have hids : (s.seen.map (·.1) ++ ((leftW s).flatMap (·.2)).map (·.1)).Perm (L.map (·.id)) := by
    rw [← hidL, ← List.map_append]
    exact hall.map _
  have hnd := hids.nodup_iff.2 hq.rows.nodup
  have hns := (List.nodup_append.1 hnd).1
  have hnl := (List.nodup_append.1 hnd).2.1
  have hcore : ∀ r ∈ rs, ∃ x ∈ leftW s, r.core = coreW x := fun r hrm => by
    have : r.core ∈ (leftW s).map coreW := by rw [← hr]; exact List.mem_map_of_mem hrm
    obtain ⟨x, hx, e⟩ := List.mem_map.1 this
    exact ⟨x, hx, e.symm⟩
  have hmemL : ∀ x ∈ leftW s, ∀ y ∈ x.2, y ∈ L.map Rw.pr := fun x hx y hy => hall.mem_iff.1 (List.mem_append_right _ (List.mem_flatMap.2 ⟨x, hx, hy⟩))
  have hregs : ∀ r ∈ rs, ∃ x ∈ leftW s, r.core = coreW x ∧ RegOk r q.length := fun r hrm => by
    obtain ⟨x, hx, e⟩ := hcore r hrm
    obtain ⟨h1, h2, h3⟩ := left_mem hw x hx
    refine ⟨x, hx, e, reg_core (p := x.1) (rows := x.2) e h1.reg ?_ fun y hy => ?_⟩
    · exact hnl.sublist ((sub_sum hx).map _)
    · obtain ⟨w, hw', ew⟩ := List.mem_map.1 (hmemL x hx y hy)
      rw [← ew]
      exact hq.rows.id w hw'
  have hflat : (rs.flatMap (·.ids)).Perm (((leftW s).flatMap (·.2)).map (·.1)) := by
    have e1 : rs.flatMap (·.ids) = (rs.map Rgn.core).flatMap fun z => z.2.2.2.2 := by rw [List.flatMap_map]; rfl
    rw [e1, hr, List.flatMap_map]
    generalize leftW s = l
    induction l with
    | nil => exact .refl _
    | cons x l ih =>
      rw [List.flatMap_cons, List.flatMap_cons, List.map_append]
      exact (sortI_perm _).append ih
  have hlen : (sortI (s.seen.map (·.1))).length = s.seen.length := by rw [sortI_len, List.length_map]
  obtain ⟨ms, hm1, hm2⟩ := pick_rows (L := L) (S := s.seen) fun x hx => hall.mem_iff.1 (List.mem_append_left _ hx)
  have htop : topW q k s = topk k.toNat (ms.map (hitOf q)) := by
    unfold topW
    rw [← hm1, List.map_map]
    rfl
  refine ⟨⟨sortI_rise hns, fun r hrm => ?_, ?_, fun m hm hms => ?_⟩, by rw [hlen]; exact hw.few, ?_⟩
  · obtain ⟨x, hx, e, hreg⟩ := hregs r hrm
    obtain ⟨h1, h2, h3⟩ := left_mem hw x hx
    obtain ⟨_, _, _, _, e5⟩ := core_rgn (p := x.1) (rows := x.2) e
    refine ⟨hreg, fun hn => ?_, fun y hy => ?_⟩
    · rw [e5] at hn
      have := congrArg List.length hn
      rw [sortI_len, List.length_map, List.length_nil] at this
      exact h2 (List.eq_nil_of_length_eq_zero this)
    · rw [e5] at hy
      obtain ⟨z, hz, rfl⟩ := List.mem_map.1 ((sortI_perm _).mem_iff.1 hy)
      obtain ⟨w, hw', ew⟩ := List.mem_map.1 (hmemL x hx z hz)
      refine ⟨w, hw', by rw [← ew]; rfl, inside_core (p := x.1) (rows := x.2) e ?_⟩
      have := h1.ins z (h3 z hz)
      rw [← ew] at this
      exact this
  · exact ((sortI_perm _).append hflat).trans hids
  · rw [htop]
    have hp : m.Perm ms := by
      refine rows_perm hq.rows.nodup hm hm2 ?_
      rw [hms]
      refine (sortI_perm _).trans (List.Perm.of_eq ?_)
      rw [← hm1, List.map_map]
      rfl
    exact topk_eq (hp.symm.map _)
  · rw [hlen]
    have hfew := hw.few
    by_cases hcut : s.rest = []
    · by_cases hb2 : b ≤ (s.seen.length : Int)
      · left; omega
      by_cases hh : s.heap = []
      · right; left
        have h1 := hids.length_eq
        rw [left_flat, hcut, hh] at h1
        simpa using h1
      · right; right
        have hfull : fullW q k s (s.heap.getD 0 default).1 := by
          by_cases hf : fullW q k s (s.heap.getD 0 default).1
          · exact hf
          · exact absurd ⟨hh, by omega, hf⟩ hend
        obtain ⟨f1, f2⟩ := hfull
        right
        refine ⟨?_, fun r hrm => ?_⟩
        · unfold topW
          rw [topk_len, List.length_map]
          omega
        · obtain ⟨x, hx, e, _⟩ := hregs r hrm
          rw [near_core (p := x.1) (rows := x.2) e]
          unfold leftW at hx
          rw [hcut, List.nil_append] at hx
          obtain ⟨y, hy, rfl⟩ := List.mem_map.1 (List.mem_filter.1 hx).1
          obtain ⟨i, hi, rfl⟩ := List.getElem_of_mem hy
          have hroot := hw.hp.root bltOk i hi
          rw [List.getD_eq_getElem?_getD, List.getElem?_eq_getElem hi] at hroot
          have hge : (s.heap.getD 0 default).1 ≤ s.heap[i].1 := by
            have : ¬ s.heap[i].1 < (s.heap.getD 0 default).1 := of_decide_eq_false hroot
            omega
          have := (hw.near _ hy).1
          rw [show (k - 1).toNat = k.toNat - 1 by omega]
          show _ < nearR (s.heap[i].2.rgn []) q
          omega
    · left
      exact hw.cut hcut

end Go.Proofs.YtbohcdjoglidhaaGreatDoor

/- VcWlk4 -/
namespace Go.Proofs.YtbohcdjoglidhaaGreatDoor

theorem bWalk1 : hasBody Tryz.prog 196 = true := by kernel_rfl
theorem bWalk2 : hasBody Tryz.prog 197 = true := by kernel_rfl

theorem len_size (P : List Pt) : P.length ≤ Pt.sizeL P := by
  induction P with
  | nil => exact Nat.le_refl _
  | cons p P ih => simp only [Pt.sizeL, List.length_cons]; have := Pt.size_eq p; omega

theorem ptr_at {u : H} {s : Sl} {ps : List Nat} (h : Seg u s 1 (ps.map fun n => .pointer (some ⟨n, 0, none⟩))) {i : Nat} (hi : i < ps.length) : ∃ a, s.a = some a ∧ u.cell? (a.add (i * 1)) = some (.pointer (some ⟨ps[i], 0, none⟩)) := by
  obtain ⟨a, ha, hc⟩ := Seg.elem (enc := fun n : Nat => [Value.pointer (some ⟨n, 0, none⟩)]) (k := 1) (fun _ => rfl) (by decide) (xs := ps) (by
    have e : ps.flatMap (fun n : Nat => [Value.pointer (some ⟨n, 0, none⟩)]) = ps.map fun n => Value.pointer (some ⟨n, 0, none⟩) := by
      generalize ps = z
      induction z with
      | nil => rfl
      | cons y z ih => rw [List.flatMap_cons, List.map_cons, ih]; rfl
    rw [e]
    exact h) (List.getElem?_eq_getElem hi)
  exact ⟨a, ha, hc 0 _ rfl⟩

theorem start_size (q : List Int) (P : List Pt) : Pt.sizeL ((startW q P).heap.map (·.2)) ≤ Pt.sizeL P := by
  have h0 : Hp blt ([] : List Op1).length [] := fun i _ hi => by simp at hi
  obtain ⟨h1, h2⟩ := foldl_add (q := q) P [] h0
  rw [List.nil_append] at h2
  show Pt.sizeL ((P.foldl (addW q) []).map (·.2)) ≤ _
  rw [sizeL_perm (h2.map _), List.map_map]
  exact Nat.le_of_eq (congrArg _ (List.map_id' _))

theorem loopW_stop {q : List Int} {k b : Int} {s : WS} (h : ¬ goW q k b s) : ∀ f, loopW q k b f s = s := by
  intro f
  cases f with
  | zero => rfl
  | succ f => unfold loopW; rw [if_neg h]

theorem loopW_go {q : List Int} {k b : Int} {s : WS} (h : goW q k b s) (f : Nat) : loopW q k b (f + 1) s = loopW q k b f (stepW q b s) := by
  conv => lhs; unfold loopW
  rw [if_pos h]

/-- Where the walk is: st, with f steps to go at most. -/
structure At (v w : H) (N n6 : Nat) (k b : Int) (q : List Int) (P : List Pt) (f : Nat) (sh ss sr : Sl) : Prop where
  hits : sh = ⟨none, 0, 0⟩
  ex : ∃ (st : WS) (S : List Hit) (R : List Rgn), WI v w N n6 k S st.heap (st.seen.map (·.1)) ss sr R ∧ S.Perm (st.seen.map (hitP q)) ∧ WOk q b (Pt.allL P) st ∧ R.map Rgn.core = st.rest.map coreW ∧ loopW q k b f st = walkE q k b P ∧ Pt.sizeL (st.heap.map (·.2)) ≤ f ∧ f ≤ Pt.sizeL P

/-- The walk's memory at its start. -/
theorem WI.start {v u : H} {N n6 : Nat} {k : Int} (hT : TopAt v N k u []) (hn : u n6 = none) : WI v (u.ins n6 (.cells #[.slice none 0 0] 280 (0, 0))) N n6 k [] [] [] ⟨none, 0, 0⟩ ⟨none, 0, 0⟩ [] := by
  have hv := hT.le
  have hvn : v n6 = none := le_none hv hn
  have hle := H.le_ins (u := u) (b := n6) (.cells #[.slice none 0 0] 280 (0, 0)) hn
  have hle2 := H.le_ins (u := v) (b := n6) (.cells #[.slice none 0 0] 280 (0, 0)) hvn
  refine ⟨⟨u, v.ins n6 (.cells #[.slice none 0 0] 280 (0, 0)), hle, fun c o hc => ?_, hv, hle2, fun c h1 h2 => ?_, hT, ⟨[], ⟨⟨⟨none, 0, 0⟩, H.ins_same _ _ _, OwnF.nil hle2 _ _, by simp [Sl.blk]⟩, hvn, by simp⟩, rfl, fun e he => (by cases he)⟩, fun s hs g hg => ?_⟩, OwnF.nil (hv.trans hle) _ _, RestAt.nil (hv.trans hle), fun s hs => ?_⟩
  · by_cases e : c = n6
    · subst e; rw [H.ins_same] at hc ⊢; exact hc
    · rw [H.ins_other _ _ e] at hc ⊢; exact hv c o hc
  · by_cases e : c = n6
    · subst e; exact absurd hn h1
    · rw [H.ins_other _ _ e] at h2; exact h2
  · simp at hs
    subst hs
    simp [Sl.blk] at hg
  · intro g hg
    simp [Sl.blk] at hg

theorem flat_ge {α : Type} {L : List (α × List Prw)} (h : ∀ x ∈ L, x.2 ≠ []) : L.length ≤ (L.flatMap (·.2)).length := by
  induction L with
  | nil => exact Nat.le_refl _
  | cons x L ih =>
    have h1 := ih fun y hy => h y (List.mem_cons_of_mem _ hy)
    have h2 : 0 < x.2.length := List.length_pos_iff.2 (h x (List.mem_cons_self ..))
    rw [List.flatMap_cons, List.length_append, List.length_cons]
    omega

theorem left_few {q : List Int} {b : Int} {Q : List Prw} {s : WS} (h : WOk q b Q s) : (leftW s).length ≤ Q.length := by
  have h1 := flat_ge fun x hx => (left_mem h x hx).2.1
  have h2 := h.perm.length_eq
  rw [← left_flat, List.length_append] at h2
  omega

/-- What is left of the first so many of a queue. -/
def leftN (s : WS) (x : Nat) : List (Pt × List Prw) := s.rest ++ ((s.heap.take x).map fun y => (y.2, y.2.all)).filter fun y => !y.2.isEmpty

theorem leftN_few {q : List Int} {b : Int} {Q : List Prw} {s : WS} (h : WOk q b Q s) (x : Nat) : (leftN s x).length ≤ Q.length := by
  refine Nat.le_trans (List.Sublist.length_le ?_) (left_few h)
  unfold leftN leftW
  exact (List.Sublist.refl _).append (((List.take_sublist x s.heap).map _).filter _)

theorem leftN_all (s : WS) {x : Nat} (h : s.heap.length ≤ x) : leftN s x = leftW s := by
  unfold leftN leftW
  rw [List.take_of_length_le h]

theorem leftN_succ {s : WS} {x : Nat} {e : Op1} (h : s.heap[x]? = some e) : leftN s (x + 1) = leftN s x ++ (if e.2.all = [] then [] else [(e.2, e.2.all)]) := by
  unfold leftN
  rw [List.take_add_one, h, Option.toList, List.map_append, List.filter_append, List.append_assoc]
  congr 2
  cases e2 : e.2.all <;> simp [e2]

theorem heap_all_le {q : List Int} {b : Int} {Q : List Prw} {s : WS} (h : WOk q b Q s) {e : Op1} (he : e ∈ s.heap) : e.2.all.length ≤ Q.length := by
  have h1 := (sub_sum (f := fun x : Op1 => x.2.all) he).length_le
  have h2 := h.perm.length_eq
  rw [List.length_append, List.length_append] at h2
  omega

theorem heap_size_le {l : List Op1} {e : Op1} (he : e ∈ l) : e.2.size ≤ Pt.sizeL (l.map (·.2)) := by
  induction l with
  | nil => cases he
  | cons x l ih =>
    simp only [List.map_cons, Pt.sizeL]
    rcases List.mem_cons.1 he with rfl | he
    · omega
    · have := ih he; omega

theorem regok_small {p : Pt} {d : Int} (h : RegOk (p.rgn []) d) : p.lo.length ≤ 64 ∧ p.hi.length ≤ 64 := by
  have hd := h.dim
  rcases h.shape with ⟨_, h1, h2, _⟩ | ⟨_, _, h1, h2, _⟩ | ⟨_, h1, h2, _⟩
  · have h1' : p.lo = [] := h1
    have h2' : p.hi = [] := h2
    rw [h1', h2']; simp
  · exact ⟨h1.1, h2.1⟩
  · have h1' : p.hi = [] := h1
    rw [h1']
    exact ⟨h2.1, by simp⟩

/-- The answer of a walk's memory. -/
theorem wi_ans {u v z u1 u2 : H} {N n6 : Nat} {k : Int} {S : List Hit} {l : List Op1} {ids ids' : List Int} {sh ss sr : Sl} {R : List Rgn} {H1 : List Hit} (luv : u.le v) (hW : WI v z N n6 k S l ids ss sr R)
    (h1 : OwnF v u1 3 1 ss (ids'.flatMap encI)) (he : Else z u1 ss) (h2 : OwnF u1 u2 63 3 sh (H1.flatMap encH)) : AnsO u u2 sh ss sr H1 ids' R := by
  have hR1 : RestAt v u1 sr R := hW.rest.stay h1.le fun s hs g o hg ho => he g o ho fun e => hW.far s hs g e hg
  have hR2 := hR1.mono h2.le
  have hss := h1.mono h2.le
  refine ⟨h2.weaken (luv.trans h1.le), hss.weaken luv, hR2.own.weaken luv, fun r hr => ⟨(hR2.each r hr).l.weaken luv, (hR2.each r hr).h.weaken luv, (hR2.each r hr).i.weaken luv⟩, ?_⟩
  have kn : ∀ s ∈ ss :: sr :: R.flatMap Rgn.sls, ∀ g, s.blk = some g → u1 g ≠ none := by
    intro s hs g hg
    rcases List.mem_cons.1 hs with rfl | hs
    · exact own_known h1 hg
    · rcases List.mem_cons.1 hs with rfl | hs
      · exact own_known hR1.own hg
      · obtain ⟨y, hy, hty⟩ := List.mem_flatMap.1 hs
        obtain ⟨xs, hx⟩ := own3_sls (hR1.each y hy) s hty
        exact own_known hx hg
  unfold ansS
  refine List.pairwise_cons.2 ⟨fun s hs g hg hg2 => kn s hs g hg2 (h2.fresh g hg), List.pairwise_cons.2 ⟨fun s hs => hW.far s hs, hR2.far⟩⟩

/-- A step of the loop. -/
theorem at_step {q : List Int} {k b : Int} {P : List Pt} {st : WS} {f : Nat} (hgo : goW q k b st) (hok : WOk q b (Pt.allL P) st) (hl : loopW q k b f st = walkE q k b P) (hs : Pt.sizeL (st.heap.map (·.2)) ≤ f) :
    ∃ f', f = f' + 1 ∧ loopW q k b f' (stepW q b st) = walkE q k b P ∧ Pt.sizeL ((stepW q b st).heap.map (·.2)) ≤ f' ∧ WOk q b (Pt.allL P) (stepW q b st) := by
  have h1 := step_size hok hgo
  cases f with
  | zero => omega
  | succ f => exact ⟨f, rfl, by rw [← loopW_go hgo]; exact hl, by omega, stepW_ok hok hgo⟩

end Go.Proofs.YtbohcdjoglidhaaGreatDoor

/- VcWlk5 -/
namespace Go.Proofs.YtbohcdjoglidhaaGreatDoor

theorem spec.flat_Walk {u : H} {s0 t : Sl} {ms : List Nat} {P : List Pt} {q : List Int} {k b : Int} {K : Sl → Sl → Sl → H → Prop} (hs : Seg u s0 1 (ms.map fun n => .pointer (some ⟨n, 0, none⟩))) (hlen : ms.length = P.length)
    (hp : ∀ (i : Nat) m p, ms[i]? = some m → P[i]? = some p → PartAt u m p) (hok : ∀ p ∈ P, PtOk q.length p) (ht : Ints u t q) (hq : vok q) (k1 : 1 ≤ k) (k2 : k ≤ 64) (b0 : 0 ≤ b) (b1 : b ≤ 1000000) (hsz : Pt.sizeL P ≤ 4000000) (hal : (Pt.allL P).length ≤ 100000)
    (hrows : ∀ x ∈ Pt.allL P, (x.2.length : Int) = q.length ∧ vok x.2)
    (hK : ∀ sh ss sr R u', AnsO u u' sh ss sr (topW q k (walkE q k b P)) (sortI ((walkE q k b P).seen.map (·.1))) R → R.map Rgn.core = (leftW (walkE q k b P)).map coreW → K sh ss sr u') : C.flat_Walk s0 t k b u K := by
  apply vc.flat_Walk
  intro n0 hn0
  refine spec.topk_New (fun hx => absurd hx (by omega)) fun _ _ N u3 l3 hN hT0 => ?_
  intro n4 hn4
  refine ⟨_, _, H.ins_same _ _ _, rfl, by simp, by simp [Value.oneCell'], ?_⟩
  intro n6 hn6
  rw [H.ins_ins] at hn6 ⊢
  obtain ⟨oB, hoB⟩ : ∃ oB, oB = (Obj.cells (wr #[Value.pointer none] 0 [Value.pointer (some ⟨N, 0, none⟩)]) 154 (0, 0)) := ⟨_, rfl⟩
  rw [← hoB] at hn6 ⊢
  obtain ⟨o0, ho0⟩ : ∃ o0, o0 = (Obj.cells #[Value.slice t.a t.n t.c] 22 (0, 0)) := ⟨_, rfl⟩
  rw [← ho0] at hT0 l3 hN
  have hT := hT0.rebase hn4 oB
  have hv1n4 : (u.ins n0 o0) n4 = none := le_none l3 hn4
  obtain ⟨v, hv⟩ : ∃ v, v = (u.ins n0 o0).ins n4 oB := ⟨_, rfl⟩
  rw [← hv] at hT
  have luv : u.le v := by rw [hv]; exact (H.le_ins _ hn0).trans (H.le_ins _ hv1n4)
  have c0v : v.cell? ⟨n0, 0, none⟩ = some (.slice t.a t.n t.c) := by
    have h1 : (u.ins n0 o0) n0 = some o0 := H.ins_same _ _ _
    have h2 : v n0 = some o0 := by rw [hv]; exact H.le_ins _ hv1n4 _ _ h1
    rw [ho0] at h2
    exact H.cell?_of h2 0
  have c4v : v.cell? ⟨n4, 0, none⟩ = some (.pointer (some ⟨N, 0, none⟩)) := by
    have h2 : v n4 = some oB := by rw [hv]; exact H.ins_same _ _ _
    rw [hoB] at h2
    exact H.cell?_of h2 0
  have W0 := WI.start hT hn6
  have htv := ht.mono luv
  have hpv : ∀ (i : Nat) m p, ms[i]? = some m → P[i]? = some p → PartAt v m p := fun i m p h1 h2 => (hp i m p h1 h2).mono luv
  have hsn : s0.n = ms.length := by have := hs.len; simpa using this.symm
  have hsm := Nat.le_trans (Seg.cap hs) (Seg.max hs)
  refine ⟨fun x w => 0 ≤ x ∧ x ≤ s0.n ∧ WI v w N n6 k [] ((P.take x.toNat).foldl (addW q) []) [] ⟨none, 0, 0⟩ ⟨none, 0, 0⟩ [], fun x _ => ((s0.n : Int) - x).toNat, ⟨by omega, by omega, W0⟩, fun x w hI => ⟨fun hx => ?_, fun hx => ?_⟩⟩
  · obtain ⟨x0, x1, W⟩ := hI
    have hxl : x.toNat < ms.length := by omega
    obtain ⟨a, ha, hc⟩ := ptr_at (hs.mono (luv.trans W.le)) hxl
    have hP : P[x.toNat]? = some P[x.toNat] := List.getElem?_eq_getElem (by omega)
    have hpk := hok _ (List.getElem_mem (show x.toNat < P.length by omega))
    have hlen2 : ((P.take x.toNat).foldl (addW q) []).length < 10000000 := by
      have h0' : Hp blt ([] : List Op1).length [] := fun i _ hi => by simp at hi
      have h1 := (foldl_add (q := q) (P.take x.toNat) [] h0').2.length_eq
      rw [List.nil_append, List.length_map, List.length_take] at h1
      have h2 := len_size P
      omega
    refine ⟨a, ha, ⟨x0, hx⟩, _, hc, .inl ⟨_, _, _, rfl, bodyOf bWalk1, spec.wi_add W hlen2 (hpv _ _ _ (List.getElem?_eq_getElem hxl) hP) hpk.reg hq c0v htv fun u' hW => ⟨⟨by omega, by omega⟩, ⟨by omega, by omega, ?_⟩, by dsimp only; omega⟩⟩⟩
    rw [show (x + 1).toNat = x.toNat + 1 by omega, List.take_add_one, hP, List.foldl_append]
    exact hW
  · obtain ⟨x0, x1, W⟩ := hI
    rw [List.take_of_length_le (by omega)] at W
    intro K14 h14
    refine ⟨fun s57 s58 s59 w => ∃ f, At v w N n6 k b q P f s57 s58 s59, fun s57 s58 s59 w => least fun f => At v w N n6 k b q P f s57 s58 s59, ⟨Pt.sizeL P, rfl, startW q P, [], [], W, .refl _, startW_ok b0 hok, rfl, rfl, start_size q P, Nat.le_refl _⟩, fun s57 s58 s59 w hI => ?_⟩
    have hf := least_is hI
    generalize hfe : (least fun f => At v w N n6 k b q P f s57 s58 s59) = f at hf
    obtain ⟨h57, st, S, R, hW, hS, hwok, hR, hloop, hsize, hfl⟩ := hf
    obtain rfl : s57 = ⟨none, 0, 0⟩ := h57
    intro K61 h61
    obtain ⟨sq, e1, e2, e3⟩ := hW.slice
    have hseen : s58.n = st.seen.length := by have h := hW.seen.ints.len; rw [List.length_map] at h; exact h
    have hheapl : st.heap.length ≤ 4000000 := by have h := len_size (st.heap.map (·.2)); rw [List.length_map] at h; omega
    have hmemP : ∀ x ∈ st.seen, x ∈ Pt.allL P := fun x hx => hwok.perm.mem_iff.1 (List.mem_append_left _ hx)
    have hdok : ∀ g ∈ S, Dok g.2 := fun g hg => by
      obtain ⟨x, hx, rfl⟩ := List.mem_map.1 (hS.mem_iff.1 hg)
      obtain ⟨g1, g2⟩ := hrows x (hmemP x hx)
      exact sqTo_ok g2 hq (by omega)
    have htop : topW q k st = topk k.toNat S := topk_eq hS.symm
    have hRl : R.length = st.rest.length := by have := congrArg List.length hR; simpa using this
    have fin : ¬ goW q k b st → K14 ⟨none, 0, 0⟩ s58 s59 w := fun hng => by
      have hst : walkE q k b P = st := by rw [← hloop, loopW_stop hng]
      obtain ⟨uT, uQ, t1, q1, t2, q2, hap, hTT, hQ, hfr⟩ := hW.ex
      obtain ⟨sq, e1, e2, e3⟩ := hQ.slice
      refine h14 ⟨none, 0, 0⟩ s58 s59 w ⟨sq, q1.cell e1, fun x s23 s24 s25 z => 0 ≤ x ∧ x ≤ sq.n ∧ s23 = ⟨none, 0, 0⟩ ∧ s24 = s58 ∧ uT.le z ∧ uQ.le z ∧ (∀ g, s25.blk = some g → uT g = none ∧ uQ g = none) ∧ ∃ R', WI v z N n6 k S st.heap (st.seen.map (·.1)) s58 s25 R' ∧ R'.map Rgn.core = (leftN st x.toNat).map coreW, fun x _ _ _ _ => ((sq.n : Int) - x).toNat,
        ⟨by omega, by omega, rfl, rfl, t1, q1, fun g hg => hfr s59 (by simp) g hg, R, hW, by rw [hR]; simp [leftN]⟩, ?_⟩
      rintro x s23 s24 s25 z ⟨x0, x1, h23, h24, tz, qz, hz, R', hW', hR'⟩
      obtain rfl : s23 = ⟨none, 0, 0⟩ := h23
      obtain rfl : s24 = s58 := h24
      have hRl' : R'.length = (leftN st x.toNat).length := by have := congrArg List.length hR'; simpa using this
      have hfew := leftN_few hwok x.toNat
      refine ⟨fun hx => ?_, fun hx => ?_⟩
      · obtain ⟨p, m, e, g1, g2, g3, g4, g5, g6⟩ := e3 x x0 hx
        have hem : e ∈ st.heap := List.mem_of_getElem? g2
        have hbnd := heap_all_le hwok hem
        obtain ⟨en1, en2⟩ := hwok.near e hem
        have hsucc := leftN_succ g2
        refine ⟨p, g1, ⟨x0, hx⟩, _, qz.cell g4, _, qz.cell g5, _, qz.cell g6, spec.flat_Part__All g3 hW'.le (by omega) fun s31 L u32 o31 hL hI => ⟨fun hpos => ?_, fun hno => ?_⟩⟩
        · have hn31 := flat_n encR_len (by decide) o31.own.seg
          have hLl : L.length = e.2.all.length := by rw [← hL, List.length_map]
          have hne : e.2.all ≠ [] := fun h0 => by rw [h0] at hLl; simp at hLl; rw [hLl] at hn31; simp at hn31; omega
          rw [if_neg hne] at hsucc
          cases g3 with
          | mk ls hs' is rs ks rows ps cell isn lo hi at' pr kids len each =>
          have vu : v.le u32 := hW'.le.trans o31.le
          have hc := vu _ _ cell
          obtain ⟨lo64, hi64⟩ := regok_small en2.reg
          have hrw : Rws u32 s31 L := ⟨o31.own.seg, fun r hr => (hI r hr).mono vu⟩
          have hids : sortI (L.map (·.id)) = sortI (e.2.all.map (·.1)) := by rw [← hL, List.map_map]; rfl
          refine ⟨_, rfl, _, H.cell?_of hc 0, ls, H.cell?_of hc 1, hs', H.cell?_of hc 2, _, H.cell?_of hc 3, _, H.cell?_of hc 4, is, H.cell?_of hc 5,
            spec.flat_region (lo.mono vu) (hi.mono vu) hrw lo64 hi64 (by omega) fun a b' c u46 oa ob oc f1 f2 f3 => ⟨oa.le, ?_⟩⟩
          have hW2 := hW'.mono o31.le
          have := wi_left (r := ⟨e.2.sh, a, b', e.2.rad, c, e.2.lo, e.2.hi, sortI (L.map (·.id))⟩) hW2 oa.le ⟨oa, ob, oc⟩ f1 f2 f3 (by omega)
            (K := fun (s49 : Sl) (u50 : H) => InR (x + 1) ∧ (0 ≤ x + 1 ∧ x + 1 ≤ (sq.n : Int) ∧ (⟨none, 0, 0⟩ : Sl) = ⟨none, 0, 0⟩ ∧ s24 = s24 ∧ uT.le u50 ∧ uQ.le u50 ∧ (∀ g, s49.blk = some g → uT g = none ∧ uQ g = none) ∧ ∃ R', WI v u50 N n6 k S st.heap (st.seen.map (·.1)) s24 s49 R' ∧ R'.map Rgn.core = (leftN st (x + 1).toNat).map coreW) ∧ ((sq.n : Int) - (x + 1)).toNat < ((sq.n : Int) - x).toNat)
            fun s49 u50 hW3 hel hbl => ⟨⟨by omega, by omega⟩, ⟨by omega, by omega, rfl, rfl, fun g o hg => hel g o (oa.le _ _ (o31.le _ _ (tz g o hg))) fun e0 => (by rw [(hz g e0).1] at hg; cases hg), fun g o hg => hel g o (oa.le _ _ (o31.le _ _ (qz g o hg))) fun e0 => (by rw [(hz g e0).2] at hg; cases hg), fun g hg => ?_, _, hW3, ?_⟩, by omega⟩
          · exact SemT.slice_mono this fun s1 v1 h => ⟨oa.le.trans h.1, h.2⟩
          · rcases hbl g hg with h1 | h1
            · exact hz g h1
            · have h2 := le_none (o31.le.trans oa.le) h1
              exact ⟨le_none tz h2, le_none qz h2⟩
          · rw [show (x + 1).toNat = x.toNat + 1 by omega, hsucc, List.map_append, List.map_append, hR']
            simp only [List.map_cons, List.map_nil, Rgn.core, coreW, hids]
        · have hn31 := flat_n encR_len (by decide) o31.own.seg
          have hLl : L.length = e.2.all.length := by rw [← hL, List.length_map]
          have hnil : e.2.all = [] := List.eq_nil_of_length_eq_zero (by omega)
          rw [if_pos hnil, List.append_nil] at hsucc
          exact ⟨⟨by omega, by omega⟩, ⟨by omega, by omega, rfl, rfl, tz.trans o31.le, qz.trans o31.le, hz, R', hW'.mono o31.le, by rw [show (x + 1).toNat = x.toNat + 1 by omega, hsucc]; exact hR'⟩, by dsimp only; omega⟩
      · have hsl := hwok.few
        rw [leftN_all st (by omega)] at hR'
        refine spec.slices_Sort___int_int_ hW'.seen (by rw [List.length_map]; omega) fun u51 ho51 he51 => ⟨_, ho51.le.cell c4v, ?_⟩
        have tT : uT.le u51 := fun g o hg => he51 g o (tz g o hg) fun e0 => by rw [(hfr s24 (by simp) g e0).1] at hg; cases hg
        refine spec.topk_Heap__List (hTT.whole tT) fun s53 u54 o53 => ?_
        have hans := wi_ans luv hW' ho51 he51 o53
        rw [← htop, ← hst] at hans
        rw [← hst] at hR'
        exact hK _ _ _ _ _ hans hR'
    have hSl : S.length = st.seen.length := by have := hS.length_eq; rwa [List.length_map] at this
    refine ⟨sq, e1, vc.flat_queue__Len _ _ _ ⟨fun hlen => ⟨fun hb => ?_, fun hb => fin fun hg => by have := hg.2.1; omega⟩, fun hlen => fin fun hg => ?_⟩⟩
    · obtain ⟨p, m, e, g1, g2, g3, g4, g5, g6⟩ := e3 0 (by omega) (by omega)
      have ehead : st.heap.getD 0 default = e := by rw [List.getD_eq_getElem?_getD]; rw [show (0 : Int).toNat = 0 from rfl] at g2; rw [g2]; rfl
      have hem : e ∈ st.heap := List.mem_of_getElem? g2
      obtain ⟨en1, en2⟩ := hwok.near e hem
      have hde : Dok e.1 := by rw [en1]; exact nearR_ok en2.reg hq
      refine ⟨sq, e1, p, g1, ⟨by omega, by omega⟩, _, g5, _, by rw [Addr.add_add']; exact g6, .inl ⟨_, _, _, rfl, bodyOf bWalk2, spec.wi_done hW k1 hdok c4v (hiU hde) (loU _) fun bb hbb => ?_⟩⟩
      rw [wv_hl, hSl] at hbb
      have hfull : bb = true ↔ fullW q k st (st.heap.getD 0 default).1 := by
        rw [hbb, ehead]
        unfold fullW
        rw [htop]
      refine ⟨fun hnd => h61 _ ?_, fun hd => fin fun hg => hg.2.2 (hfull.1 hd)⟩
      have hgo : goW q k b st := ⟨fun e0 => (by rw [e0] at hem; cases hem), by omega, fun hf => hnd (hfull.2 hf)⟩
      clear fin h14 hfull
      obtain ⟨f', hff, hloop', hsize', hwok'⟩ := at_step hgo hwok hloop hsize
      have hhl : 0 < st.heap.length := List.length_pos_iff.2 hgo.1
      have hrest0 : st.rest = [] := by
        by_cases e0 : st.rest = []
        · exact e0
        · have := hwok.cut e0; omega
      have hmeas : ∀ {sa sb sc : Sl} {z : H}, At v z N n6 k b q P f' sa sb sc → least (fun f => At v z N n6 k b q P f sa sb sc) < least fun f => At v w N n6 k b q P f ⟨none, 0, 0⟩ s58 s59 := fun {sa sb sc z} h => by
        rw [hfe]
        exact Nat.lt_of_le_of_lt (least_le h) (by omega)
      refine spec.wi_pop hW hwok.hp hhl fun u64 m1 hW1 hpart => sem_assertQ ?_
      rw [ehead] at hpart ⊢
      have hall := heap_all_le hwok hem
      rw [Pt.all_eq, List.length_append] at hall
      obtain ⟨p1, p2, p3, _⟩ := popF_ok bltOk hwok.hp hhl
      have hsz2 := heap_size_le hem
      have hsz3 := len_size (st.heap.map (·.2))
      rw [List.length_map] at hsz3
      rw [Pt.size_eq] at hsz2
      have hkl := len_size e.2.kids
      have hpl := p1.length_eq
      rw [List.length_cons] at hpl
      cases hpart with
      | mk ls hs' is rs ks rows ps cell isn lo hi at' pr kids len each =>
      have hkn : ks.n = ps.length := by have := kids.len; simpa using this.symm
      have hrl : e.2.rows.length = rows.length := by rw [← pr, List.length_map]
      have hrn := at'.len
      refine ⟨_, rfl, ks, H.cell?_of (hW1.le _ _ cell) 7, fun x z => 0 ≤ x ∧ x ≤ ks.n ∧ WI v z N n6 k S ((e.2.kids.take x.toNat).foldl (addW q) (popF blt st.heap)) (st.seen.map (·.1)) s58 s59 R, fun x _ => ((ks.n : Int) - x).toNat, ⟨by omega, by omega, by simpa using hW1⟩, ?_⟩
      rintro x z ⟨x0, x1, hWx⟩
      refine ⟨fun hx => ?_, fun hx => ?_⟩
      · have hxl : x.toNat < ps.length := by omega
        obtain ⟨a, ha, hc⟩ := ptr_at (kids.mono hWx.le) hxl
        have hP : e.2.kids[x.toNat]? = some e.2.kids[x.toNat] := List.getElem?_eq_getElem (by omega)
        have hpk := en2.kids _ (List.getElem_mem (show x.toNat < e.2.kids.length by omega))
        have hlen2 : ((e.2.kids.take x.toNat).foldl (addW q) (popF blt st.heap)).length < 10000000 := by
          have h1 := (foldl_add (q := q) (e.2.kids.take x.toNat) _ p2).2.length_eq
          rw [List.length_append, List.length_map, List.length_take] at h1
          omega
        refine ⟨a, ha, ⟨x0, hx⟩, _, hc, .inl ⟨_, _, _, rfl, bodyOf bWalk1, spec.wi_add hWx hlen2 (each _ _ _ (List.getElem?_eq_getElem hxl) hP) hpk.reg hq c0v htv fun u' hW => ⟨⟨by omega, by omega⟩, ⟨by omega, by omega, ?_⟩, by dsimp only; omega⟩⟩⟩
        rw [show (x + 1).toNat = x.toNat + 1 by omega, List.take_add_one, hP, List.foldl_append]
        exact hW
      · rw [List.take_of_length_le (by omega)] at hWx
        have hsteph : (stepW q b st).heap = e.2.kids.foldl (addW q) (popF blt st.heap) := by unfold stepW; rw [ehead]
        have hsteps : (stepW q b st).seen = st.seen ++ e.2.rows.take (b - st.seen.length).toNat := by unfold stepW; rw [ehead]
        have hstepr : (stepW q b st).rest = if (e.2.rows.length : Int) ≤ b - st.seen.length then st.rest else st.rest ++ [(e.2, e.2.rows.drop (b - st.seen.length).toNat)] := by unfold stepW; rw [ehead]
        rw [← hsteph] at hWx
        refine ⟨_, rfl, rs, H.cell?_of (hWx.le _ _ cell) 6, fun x s83 s84 s85 z => 0 ≤ x ∧ x ≤ rs.n ∧ s83 = ⟨none, 0, 0⟩ ∧ s85 = s59 ∧ st.seen.length + x ≤ b ∧ ∃ S', WI v z N n6 k S' (stepW q b st).heap ((st.seen ++ e.2.rows.take x.toNat).map (·.1)) s84 s59 R ∧ S'.Perm ((st.seen ++ e.2.rows.take x.toNat).map (hitP q)),
          fun x _ _ _ _ => ((rs.n : Int) - x).toNat, ⟨by omega, by omega, rfl, rfl, by have := hwok.few; omega, S, by simpa using hWx, by simpa using hS⟩, ?_⟩
        clear x0 x1 hx hWx x z
        rintro x s83 s84 s85 z ⟨x0, x1, h83, h85, xb, S', hWz, hS'⟩
        obtain rfl : s83 = ⟨none, 0, 0⟩ := h83
        obtain rfl : s85 = s59 := h85
        have hn84 : s84.n = st.seen.length + min x.toNat e.2.rows.length := by have h := hWz.seen.ints.len; rw [List.length_map, List.length_append, List.length_take] at h; exact h
        refine ⟨fun hx => ?_, fun hx => ?_⟩
        · obtain ⟨pp, hpp, r, hr, c0, c1, c2⟩ := (at'.mono hWz.le).at x0 hx
          have hrr : e.2.rows[x.toNat]? = some r.pr := by rw [← pr, List.getElem?_map, hr]; rfl
          have hrP : r.pr ∈ Pt.allL P := hwok.perm.mem_iff.1 (List.mem_append_right _ (List.mem_append_right _ (List.mem_flatMap.2 ⟨e, hem, by rw [Pt.all_eq]; exact List.mem_append_left _ (List.mem_of_getElem? hrr)⟩)))
          obtain ⟨rv1, rv2⟩ := hrows _ hrP
          have rv1' : (r.v.length : Int) = q.length := rv1
          have rv2' : vok r.v := rv2
          refine ⟨pp, hpp, ⟨x0, hx⟩, _, c0, _, c1, fun hb84 => ?_, fun hb84 => ?_⟩
          · have hc := hWz.le _ _ cell
            obtain ⟨lo64, hi64⟩ := regok_small en2.reg
            have hbx : (b - st.seen.length).toNat = x.toNat := by omega
            have hcut : ¬ (e.2.rows.length : Int) ≤ b - st.seen.length := by omega
            rw [if_neg hcut, hbx] at hstepr
            rw [hbx] at hsteps
            have hpt := (at'.mono hWz.le).part (l := x.toNat) (h := rs.n) (m := rs.c) (by omega) (Nat.le_refl _) at'.1.cap (Nat.le_refl _)
            have htk : (rows.drop x.toNat).take (rs.n - x.toNat) = rows.drop x.toNat := List.take_of_length_le (by rw [List.length_drop]; omega)
            rw [htk] at hpt
            have hids : sortI ((rows.drop x.toNat).map (·.id)) = sortI ((e.2.rows.drop x.toNat).map (·.1)) := by rw [← pr, ← List.map_drop, List.map_map]; rfl
            refine ⟨_, rfl, _, rfl, _, H.cell?_of hc 0, ls, H.cell?_of hc 1, hs', H.cell?_of hc 2, _, H.cell?_of hc 3, _, H.cell?_of hc 4, is, H.cell?_of hc 5, rs, H.cell?_of hc 6,
              sem_slice tRows (l := x.toNat) (h := rs.n) (m := rs.c) (.inr (by rw [Int.toNat_of_nonneg x0])) (.inl ⟨rfl, rfl⟩) (.inl ⟨rfl, rfl⟩) (by omega) at'.1.cap (Nat.le_refl _) at'.1.cap ⟨H.le.refl _,
              spec.flat_region (lo.mono hWz.le) (hi.mono hWz.le) hpt lo64 hi64 (by rw [List.length_drop]; omega) fun a b' c u46 oa ob oc f1 f2 f3 => ⟨oa.le, ?_⟩⟩⟩
            have := wi_left (r := ⟨e.2.sh, a, b', e.2.rad, c, e.2.lo, e.2.hi, sortI ((rows.drop x.toNat).map (·.id))⟩) hWz oa.le ⟨oa, ob, oc⟩ f1 f2 f3 (by rw [hRl, hrest0]; simp)
              (K := fun (s110 : Sl) (u111 : H) => (∃ f, At v u111 N n6 k b q P f ⟨none, 0, 0⟩ s84 s110) ∧ (least fun f => At v u111 N n6 k b q P f ⟨none, 0, 0⟩ s84 s110) < least fun f => At v w N n6 k b q P f ⟨none, 0, 0⟩ s58 s85)
              fun s110 u111 hW3 _ _ => ?_
            · exact SemT.slice_mono this fun s1 v1 h => ⟨oa.le.trans h.1, h.2⟩
            · have hAt : At v u111 N n6 k b q P f' ⟨none, 0, 0⟩ s84 s110 := ⟨rfl, stepW q b st, S', _, by rw [hsteps]; exact hW3, by rw [hsteps]; exact hS', hwok', by rw [hstepr, List.map_append, List.map_append, hR]; simp only [List.map_cons, List.map_nil, Rgn.core, coreW, hids], hloop', hsize', by omega⟩
              exact ⟨⟨f', hAt⟩, hmeas hAt⟩
          · refine ⟨t, hWz.le.cell c0v, spec.vec_Dist c2 (htv.mono hWz.le) rv2' (by have := en2.reg.dim; omega) hq (by omega) fun x113 x114 hx3 hx4 hw => ⟨_, hWz.le.cell c4v, ?_⟩⟩
            have e3' : x113 = hiW (hitP q r.pr).2 := by show x113 = hiW (sqTo r.v q r.v.length); rw [← hw, hi_wv hx4]
            have e4' : x114 = loW (hitP q r.pr).2 := by show x114 = loW (sqTo r.v q r.v.length); rw [← hw, lo_wv hx4]
            rw [e3', e4']
            refine spec.wi_Offer (x := hitP q r.pr) hWz k1 k2 fun bb u119 hWo => wi_see hWo (by rw [List.length_map, List.length_append, List.length_take]; omega) fun s' u123 hWs => ⟨⟨by omega, by omega⟩, ⟨by omega, by omega, rfl, rfl, by omega, hitP q r.pr :: S', ?_, ?_⟩, by dsimp only; omega⟩
            · have et : e.2.rows.take (x + 1).toNat = e.2.rows.take x.toNat ++ [r.pr] := by
                rw [show (x + 1).toNat = x.toNat + 1 by omega, List.take_add_one, hrr]; rfl
              rw [et, ← List.append_assoc, List.map_append]
              exact hWs
            · have et : e.2.rows.take (x + 1).toNat = e.2.rows.take x.toNat ++ [r.pr] := by
                rw [show (x + 1).toNat = x.toNat + 1 by omega, List.take_add_one, hrr]; rfl
              rw [et, ← List.append_assoc, List.map_append]
              exact (List.Perm.cons _ hS').trans (List.perm_append_singleton _ _).symm
        · have hfit : (e.2.rows.length : Int) ≤ b - st.seen.length := by omega
          rw [if_pos hfit] at hstepr
          rw [List.take_of_length_le (by omega)] at hWz hS'
          rw [List.take_of_length_le (by omega)] at hsteps
          have hAt : At v z N n6 k b q P f' ⟨none, 0, 0⟩ s84 s85 := ⟨rfl, stepW q b st, S', R, by rw [hsteps]; exact hWz, by rw [hsteps]; exact hS', hwok', by rw [hstepr]; exact hR, hloop', hsize', by omega⟩
          exact ⟨⟨f', hAt⟩, hmeas hAt⟩
    · have hne := hg.1
      have := List.length_pos_iff.2 hne
      omega

end Go.Proofs.YtbohcdjoglidhaaGreatDoor
