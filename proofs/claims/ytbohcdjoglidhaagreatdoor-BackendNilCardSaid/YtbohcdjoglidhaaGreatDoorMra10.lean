/- Texts of mine, joined by merge.py: VcVp3, VcVp4, VcVp5, VcVp6, VcVp7, VcVp8, VcLawF, VcIxBk, VcBkT1, VcBkO, VcBkNil. -/
import Derived.Test.YtbohcdjoglidhaaGreatDoorMra9
import Derived.Test.YtbohcdjoglidhaaGreatDoorRows
import Derived.Deep.Strs
set_option maxRecDepth 100000

/- VcVp3 -/
namespace Go.Proofs.YtbohcdjoglidhaaGreatDoor.Vp

def parts (X : Tr) : List Pt := (X.root.map PN.pt).toList
noncomputable def walkV (X : Tr) (q : List Int) (k bud : Int) : WS := walkE q k bud (parts X)
noncomputable def ixH (X : Tr) (q : List Int) (k bud : Int) : List Hit := topW q k (walkV X q k bud)
noncomputable def ixS (X : Tr) (q : List Int) (k bud : Int) : List Int := sortI ((walkV X q k bud).seen.map (·.1))
noncomputable def ixR (X : Tr) (q : List Int) (k bud : Int) : List (Int × Int × List Int × List Int × List Int) := (leftW (walkV X q k bud)).map coreW

theorem parts_all (X : Tr) : Pt.allL (parts X) = rootAll X := by
  unfold parts rootAll
  cases X.root with
  | none => rfl
  | some n => show n.pt.all ++ [] = _; rw [List.append_nil]

theorem tPartsK : elemT Tryz.prog 130 = some (101, 1, 8, [.pointer none]) := by kernel_rfl
theorem build_partK (n : Nat) : buildOf Tryz.prog 130 1 #[(0, .pointer (some ⟨n, 0, none⟩))] = some (101, [.pointer (some ⟨n, 0, none⟩)]) := by kernel_rfl

theorem spec.Search {u0 u : H} {fp : Nat → Option Tg} {b : Nat} {T : Tr} {t : Sl} {q : List Int} {k bud : Int} {K : Sl → Sl → Sl → Int → H → Prop} (h : In u0 u fp b T) (hT : TOk T) (hgas : T.gas ≤ 2700) (ht : Ints u t q)
    (hbad : askErr q T.dim k bud ≠ 0 → K ⟨none, 0, 0⟩ ⟨none, 0, 0⟩ ⟨none, 0, 0⟩ (askErr q T.dim k bud) u)
    (hok : askErr q T.dim k bud = 0 → ∀ sh ss sr rest u', AnsO u u' sh ss sr (ixH T q k bud) (ixS T q k bud) rest → rest.map Rgn.core = ixR T q k bud → K sh ss sr 0 u') : C.vptree_Tree__Search (some ⟨b, 0, none⟩) t k bud u K := by
  apply vc.vptree_Tree__Search
  refine ⟨fun e => (by cases e), fun _ => ⟨_, rfl, _, H.cell?_of h.tr.cell 0, spec.flat_Asked ht ⟨fun hne => hbad hne, fun he => ?_⟩⟩⟩
  obtain ⟨hv, k1, k2, b0, b1⟩ := askErr_ok.1 he
  obtain ⟨_, _, hql, hvq⟩ := vcheck_ok hv
  have hok := hok he
  have hal : (Pt.allL (parts T)).length ≤ 100000 := by
    rw [parts_all, hT.rows.length_eq]
    have := hT.small
    simp [ixRows]
    omega
  have hrows : ∀ x ∈ Pt.allL (parts T), (x.2.length : Int) = q.length ∧ vok x.2 := fun x hx => by
    rw [parts_all] at hx
    obtain ⟨e, he', rfl⟩ := List.mem_map.1 (hT.rows.mem_iff.1 hx)
    obtain ⟨v1, v2⟩ := hT.vec e he'
    exact ⟨by rw [v1, hql], v2⟩
  have hsz : Pt.sizeL (parts T) ≤ 4000000 := by
    unfold parts
    cases hr : T.root with
    | none => show 0 ≤ _; omega
    | some n =>
      have := hT.size n hr
      show n.pt.size + 0 ≤ _
      rw [PN.pt_size]
      omega
  have hpok : ∀ p ∈ parts T, PtOk q.length p := fun p hp => by
    unfold parts at hp
    cases hr : T.root with
    | none => rw [hr] at hp; cases hp
    | some n =>
      rw [hr] at hp
      obtain rfl : p = n.pt := by simpa using hp
      rw [hql]
      exact hT.ok n hr
  -- the walk
  have walk : ∀ (s : Sl) (ms : List Nat) (z : H), u.le z → Seg z s 1 (ms.map fun n => .pointer (some ⟨n, 0, none⟩)) → ms.length = (parts T).length → (∀ (i : Nat) m p, ms[i]? = some m → (parts T)[i]? = some p → PartAt z m p) → C.flat_Walk s t k bud z (fun s6 s7 s8 u9 => K s6 s7 s8 0 u9) := by
    intro s ms z hz hs hlen hp
    refine spec.flat_Walk hs hlen hp hpok (ht.mono hz) hvq k1 k2 b0 b1 hsz hal hrows fun sh ss sr R u' ha hcore => hok sh ss sr R u' ?_ hcore
    exact ⟨ha.h.weaken hz, ha.s.weaken hz, ha.r.weaken hz, fun r hr => ⟨(ha.g r hr).l.weaken hz, (ha.g r hr).h.weaken hz, (ha.g r hr).i.weaken hz⟩, ha.far⟩
  obtain ⟨p5, hp5⟩ : ∃ p5 : Option Addr, p5 = T.root.map fun n => ⟨n.b, 0, none⟩ := ⟨_, rfl⟩
  have cr : u.cell? ((Addr.mk b 0 none).add 3) = some (.pointer p5) := by
    rw [hp5]
    exact H.cell?_of h.tr.cell 3
  refine ⟨_, rfl, p5, cr, fun he0 => ?_, fun hne => ⟨_, rfl, p5, cr, ?_⟩⟩
  · cases hr : T.root with
    | some n => rw [hr] at hp5; rw [he0] at hp5; cases hp5
    | none => exact walk ⟨none, 0, 0⟩ [] u (H.le.refl u) ⟨rfl, Nat.le_refl _, by decide, .inl rfl⟩ (by unfold parts; rw [hr]; rfl) fun i m p hm => by simp at hm
  · cases hr : T.root with
    | none => rw [hr] at hp5; exact absurd hp5 hne
    | some n =>
      rw [hr] at hp5
      rw [show p5 = some ⟨n.b, 0, none⟩ from hp5]
      refine sem_build (build_partK n.b) fun g hg => ?_
      obtain ⟨q1, _⟩ := h.tr.one n hr
      have l1 := H.le_ins (u := u) (b := g) (.cells [Value.pointer (some ⟨n.b, 0, none⟩)].toArray 101 (0, 0)) hg
      have mk := OwnF.make (k := 1) (H.le.refl u) hg (cells := [Value.pointer (some ⟨n.b, 0, none⟩)].toArray) (e := 101) (n := 1) (by omega) rfl
      refine walk _ [n.b] _ l1 mk.own.seg (by unfold parts; rw [hr]; rfl) fun i m p hm hp => ?_
      have hi : i = 0 := by
        have := (List.getElem?_eq_some_iff.1 hm).1
        simpa using this
      subst hi
      obtain rfl : n.b = m := Option.some.inj hm
      have hp' : p = n.pt := by
        unfold parts at hp
        rw [hr] at hp
        exact (Option.some.inj hp).symm
      rw [hp']
      exact (PnAt.part q1).mono l1

theorem tree_sound {X : Tr} (h : TOk X) {q : List Int} {k bud : Int} (hk : 1 ≤ k) (hb : 0 ≤ bud) (hd : (q.length : Int) = X.dim) {L : List Rw} (hL : (L.map Rw.pr).Perm (ixRows X)) (hq : Qok L q) {rest : List Rgn} (hr : rest.map Rgn.core = ixR X q k bud) :
    Sound L q k (ixH X q k bud) (ixS X q k bud) rest ∧ ((ixS X q k bud).length : Int) ≤ bud ∧ (((ixS X q k bud).length : Int) = bud ∨ (ixS X q k bud).length = L.length ∨ CertA q k (ixH X q k bud) rest) := by
  refine walk_sound hb hk (fun p hp => ?_) hq ?_ hr
  · unfold parts at hp
    cases hr' : X.root with
    | none => rw [hr'] at hp; cases hp
    | some n =>
      rw [hr'] at hp
      obtain rfl : p = n.pt := by simpa using hp
      rw [hd]
      exact h.ok n hr'
  · rw [parts_all]
    exact hL.trans h.rows.symm

end Go.Proofs.YtbohcdjoglidhaaGreatDoor.Vp

/- VcVp4 -/
namespace Go.Proofs.YtbohcdjoglidhaaGreatDoor.Vp

def ixErr (l : List Rw) (dim a : Int) : Int := if rcheck l dim ≠ 0 then rcheck l dim else if a < 1 ∨ 64 < a then 1 else 0

structure BuildRes (u : H) (l : List Rw) (dm a : Int) (u' : H) (bt : Nat) (fp : Nat → Option Tg) (T : Tr) : Prop where
  is : In u u' fp bt T
  ok : TOk T
  rows : (ixRows T).Perm (l.map Rw.pr)
  dim : T.dim = dm
  leaf : T.leaf = a
  gas : T.gas = 0

def entR (r : Rw) : Int × (Sl × List Int) := (r.id, (r.s, r.v))

theorem st_root {u : H} {n src : Nat} {d a : Int} {p p' : Option Addr} {m : Option Nat} {f : H → Prop} (h : u n = some (.cells #[.int .i64 d, .int .i64 a, .pointer (some ⟨src, 0, none⟩), .pointer p, .map m] 108 (0, 0)))
    (hf : f (u.ins n (.cells #[.int .i64 d, .int .i64 a, .pointer (some ⟨src, 0, none⟩), .pointer p', .map m] 108 (0, 0)))) : H.St u (Addr.add (Addr.mk n 0 none) 3) [.pointer p'] f :=
  ⟨_, _, h, rfl, by simp [Addr.add_lit], by simp [Value.oneCell'], hf⟩

theorem spec.Build {s : Sl} {l : List Rw} {dim a seed : Int} {u : H} {K : Option Addr → Int → H → Prop} (hs : Rws u s l) (hbad : ixErr l dim a ≠ 0 → K none (ixErr l dim a) u)
    (hok : ixErr l dim a = 0 → ∀ u' bt fp T, BuildRes u l dim a u' bt fp T → K (some ⟨bt, 0, none⟩) 0 u') : C.vptree_Build s dim a seed u K := by
  have bad : ∀ z, ixErr l dim a = z → z ≠ 0 → K none z u := fun z e hz => by subst e; exact hbad hz
  apply vc.vptree_Build
  refine spec.flat_Check hs ⟨fun hne => bad _ (by unfold ixErr; rw [if_pos hne]) hne, fun he => ?_⟩
  have one : (a < 1 ∨ 64 < a) → K none 1 u := fun hc => bad 1 (by unfold ixErr; rw [if_neg (by simpa using he), if_pos hc]) (by decide)
  intro K2 h2
  refine ⟨fun h => one (.inl h), fun a1 => ⟨fun h => one (.inr h), fun a2 => h2 _ _ _ ?_⟩⟩
  have hok := hok (by unfold ixErr; rw [if_neg (by simpa using he), if_neg (by omega)])
  clear bad one hbad h2 K2
  have hrok := rcheck_ok.1 he
  obtain ⟨dm1, dm2⟩ := hrok.dim
  have hl512 := hrok.len
  apply vc.rand_New
  intro n6 hn6
  obtain ⟨u6, hu6⟩ : ∃ u6, u6 = u.ins n6 (.cells #[.int .u64 seed] 134 (0, 0)) := ⟨_, rfl⟩
  have l6 : u.le u6 := by rw [hu6]; exact H.le_ins _ hn6
  have d6 : u6 n6 = some (.cells #[.int .u64 seed] 134 (0, 0)) := by rw [hu6]; exact H.ins_same _ _ _
  rw [← hu6]
  refine sem_mkmap fun m om hm hmap => ?_
  have hmu : u m = none := l6.none hm
  have h6m : n6 ≠ m := fun e => by rw [← e, d6] at hm; cases hm
  have lm := H.le_ins (u := u6) (b := m) om hm
  obtain ⟨u7, hu7⟩ : ∃ u7, u7 = u6.ins m om := ⟨_, rfl⟩
  have hm7 : u7 m ≠ none := by rw [hu7, H.ins_same]; simp
  rw [← hu7] at hmap lm ⊢
  intro n8 hn8
  have hnm : n8 ≠ m := fun e => by rw [e] at hn8; exact hm7 hn8
  have hnu6 : u6 n8 = none := lm.none hn8
  have hnu : u n8 = none := l6.none hnu6
  have h68 : n6 ≠ n8 := fun e => by rw [← e, d6] at hnu6; cases hnu6
  obtain ⟨o8, ho8⟩ : ∃ o8, o8 = (Obj.cells #[.int .i64 dim, .int .i64 a, .pointer (some ⟨n6, 0, none⟩), .pointer none, .map (some m)] 108 (0, 0)) := ⟨_, rfl⟩
  show C.flat_Own s (u7.ins n8 (Obj.cells #[.int .i64 dim, .int .i64 a, .pointer (some ⟨n6, 0, none⟩), .pointer none, .map (some m)] 108 (0, 0))) _
  rw [← ho8]
  have l8 := H.le_ins (u := u7) (b := n8) o8 hn8
  obtain ⟨u8, hu8⟩ : ∃ u8, u8 = u7.ins n8 o8 := ⟨_, rfl⟩
  have h88 : u8 n8 = some o8 := by rw [hu8]; exact H.ins_same _ _ _
  rw [← hu8] at l8 ⊢
  have hm8 : u8 m ≠ none := fun e => hm7 (l8.none e)
  have lu8 : u.le u8 := l6.trans (lm.trans l8)
  have d68 : u8 n6 = some (.cells #[.int .u64 seed] 134 (0, 0)) := l8 _ _ (lm _ _ d6)
  refine spec.flat_Own (hs.mono lu8) hrok.id (by omega) (fun r hr => by have := (hrok.v r hr).1; omega) fun s9 ls u10 hR hp hsrt => ?_
  have hRl : ls.length = l.length := by simpa using hp.length_eq
  have hlok : Rok ls dim := by
    refine rok_pr hrok.dim (by omega) ?_ fun p hp' => ?_
    · rw [show ls.map (·.id) = (ls.map Rw.pr).map (·.1) by rw [List.map_map]; rfl, (hp.map (·.1)).nodup_iff, List.map_map]
      exact hrok.nodup
    · obtain ⟨r, hr, rfl⟩ := List.mem_map.1 (hp.mem_iff.1 hp')
      exact ⟨(hrok.id r hr).1, (hrok.id r hr).2, (hrok.v r hr).1, (hrok.v r hr).2⟩
  have l10 := hR.own.le
  have h9n : s9.n = ls.length := hR.rws.len
  have hs9m : s9.blk ≠ some m := fun e => hm8 (hR.own.fresh m e)
  have hs98 : s9.blk ≠ some n8 := fun e => by have := hR.own.fresh n8 e; rw [h88] at this; cases this
  have hrm : ∀ r ∈ ls, r.s.blk ≠ some m := fun r hr e => hm8 ((hR.inner r hr).fresh m e)
  have hr8 : ∀ r ∈ ls, r.s.blk ≠ some n8 := fun r hr e => by have := (hR.inner r hr).fresh n8 e; rw [h88] at this; cases this
  have hs96 : s9.blk ≠ some n6 := fun e => by have := hR.own.fresh n6 e; rw [d68] at this; cases this
  have hr6 : ∀ r ∈ ls, r.s.blk ≠ some n6 := fun r hr e => by have := (hR.inner r hr).fresh n6 e; rw [d68] at this; cases this
  -- the map
  refine ⟨fun x w => 0 ≤ x ∧ x ≤ s9.n ∧ MapAt w m (entL ((ls.take x.toNat).map entR)) ∧ (∀ c o, u10 c = some o → c ≠ m → w c = some o) ∧ w m ≠ none, fun x _ => ((s9.n : Int) - x).toNat, ⟨by omega, by omega, (hmap.mono l8).mono l10, fun c o hc _ => hc, fun e => hm8 (l10.none e)⟩, ?_⟩
  rintro x w ⟨x0, x1, hmw, hew, hkm⟩
  have h8w : w n8 = some o8 := hew _ _ (l10 _ _ h88) hnm
  have d6w : w n6 = some (.cells #[.int .u64 seed] 134 (0, 0)) := hew _ _ (l10 _ _ d68) h6m
  have hRw : Rws w s9 ls := ⟨Seg.else hR.own.own.seg fun g o hg ho => hew g o ho fun e => hs9m (by rw [hg, e]), fun r hr => Seg.else (hR.inner r hr).ints fun g o hg ho => hew g o ho fun e => hrm r hr (by rw [hg, e])⟩
  refine ⟨fun hx => ?_, fun hx => ?_⟩
  · obtain ⟨p, hpp, r, hr, c0, c1, _⟩ := hRw.at x0 hx
    have hxl : x.toNat < ls.length := by omega
    refine ⟨p, hpp, ⟨x0, hx⟩, _, c0, _, c1, _, by rw [ho8] at h8w; exact H.cell?_of h8w 4, ?_⟩
    have hne : getL (entL ((ls.take x.toNat).map entR)) r.id = none := getL_none.2 fun hm' => by
      unfold entL at hm'
      rw [List.map_map, List.map_map] at hm'
      obtain ⟨z, hz, hzi⟩ := List.mem_map.1 hm'
      have hzid : z.id = r.id := hzi
      have hnd := hlok.nodup
      rw [← List.take_append_drop x.toNat ls, List.map_append, List.nodup_append] at hnd
      refine hnd.2.2 z.id (List.mem_map_of_mem hz) r.id (List.mem_map_of_mem ?_) hzid
      exact List.mem_of_getElem? (i := 0) (by rw [List.getElem?_drop, Nat.add_zero]; exact hr)
    refine sem_put mapTy hmw hne fun o hmo => ⟨⟨by omega, by omega⟩, ⟨by omega, by omega, ?_, fun c o' hc hne' => ?_, by rw [H.ins_same]; simp⟩, by dsimp only; omega⟩
    · rw [show (x + 1).toNat = x.toNat + 1 by omega, List.take_add_one, hr, List.map_append]
      unfold entL at hmo ⊢
      rw [List.map_append]
      exact hmo
    · rw [H.ins_other _ _ hne']; exact hew c o' hc hne'
  · rw [List.take_of_length_le (by omega)] at hmw
    -- cut
    obtain ⟨ub, hub⟩ : ∃ ub, ub = H.no (H.sans w s9) n6 := ⟨_, rfl⟩
    have ub6 : ub n6 = none := by rw [hub]; exact no_self _ _
    have ubx : ∀ {c}, c ≠ n6 → s9.blk ≠ some c → ub c = w c := fun h1 h2 => by rw [hub, no_at h1, sans_at h2]
    have lub : ub.le w := by rw [hub]; exact (no_le _ _).trans (sans_le _ _)
    have how : OwnF ub w 24 2 s9 (ls.flatMap encR) := ⟨hR.own.own.le fun c o hc ho => hew c o ho fun e => hs9m (by rw [hc, e]), lub, fun g hg => by
      rw [hub]
      refine (no_le _ _).none ?_
      unfold H.sans
      exact if_pos hg⟩
    have ub8 : ub n8 = some o8 := by rw [ubx (Ne.symm h68) hs98]; exact h8w
    have hvb : ∀ r ∈ ls, Ints ub r.s r.v := fun r hr => Seg.else (hRw.2 r hr) fun g o hg ho => by
      rw [ubx (fun e => hr6 r hr (by rw [hg, e])) ((hR.far r hr).symm g hg)]
      exact ho
    have hvk : ∀ r ∈ ls, ∀ g, r.s.blk = some g → ub g ≠ none ∧ g ≠ n8 ∧ g ≠ m ∧ g ≠ n6 := fun r hr g hg => by
      have e1 : g ≠ m := fun e => hrm r hr (by rw [hg, e])
      have e6 : g ≠ n6 := fun e => hr6 r hr (by rw [hg, e])
      refine ⟨fun e => ?_, fun e => hr8 r hr (by rw [hg, e]), e1, e6⟩
      obtain ⟨o, ho⟩ := Option.ne_none_iff_exists'.1 (own_known (hR.inner r hr) hg)
      rw [ubx e6 ((hR.far r hr).symm g hg), hew g o ho e1] at e
      cases e
    have uw : ∀ c o, u c = some o → w c = some o ∧ s9.blk ≠ some c := fun c o hc => ⟨hew c o (l10 c o (lu8 c o hc)) (fun e => (by rw [e, hmu] at hc; cases hc)), fun e => (by have := hR.own.fresh c e; rw [lu8 c o hc] at this; cases this)⟩
    have uub : u.le ub := fun c o hc => by
      obtain ⟨h1, h2⟩ := uw c o hc
      rw [ubx (fun e => by rw [e, hn6] at hc; cases hc) h2]; exact h1
    have ubm : ub m ≠ none := by rw [ubx (Ne.symm h6m) hs9m]; exact hkm
    have fin : ∀ (root : Option PN) (u21 : H), (∀ c o, w c = some o → s9.blk ≠ some c → c ≠ n6 → u21 c = some o) → SrcAt u21 n6 → (∀ n, root = some n → (∀ x ∈ n.heads, PhAt u21 x) ∧ n.own.Nodup ∧ (∀ c ∈ n.own, ub c = none ∧ u21 c ≠ none ∧ c ≠ n6) ∧ (∀ x ∈ n.heads, ∀ r ∈ x.1.rows, r ∈ ls) ∧ PtOk dim n.pt ∧ PtSh 3 n.pt ∧ PtBin n.pt ∧ n.heads.length + 1 ≤ 2 * ls.length) →
        (match root with | none => ([] : List Prw) | some n => n.pt.all).Perm (ls.map Rw.pr) → H.St u21 (Addr.add (Addr.mk n8 0 none) 3) [.pointer (root.map fun n => ⟨n.b, 0, none⟩)] fun u22 => K (some ⟨n8, 0, none⟩) 0 u22 := by
      intro root u21 f1 f1s f2 f3
      have h821 : u21 n8 = some o8 := f1 _ _ h8w hs98 (Ne.symm h68)
      rw [ho8] at h821
      refine st_root h821 ?_
      obtain ⟨T, hT⟩ : ∃ T : Tr, T = ⟨dim, a, n6, root, m, ls.map entR, 0⟩ := ⟨_, rfl⟩
      obtain ⟨u22, hu22⟩ : ∃ u22, u22 = u21.ins n8 (.cells #[.int .i64 dim, .int .i64 a, .pointer (some ⟨n6, 0, none⟩), .pointer (root.map fun n => ⟨n.b, 0, none⟩), .map (some m)] 108 (0, 0)) := ⟨_, rfl⟩
      rw [← hu22]
      have g1 : ∀ c o, u21 c = some o → c ≠ n8 → u22 c = some o := fun c o hc hne => by rw [hu22, H.ins_other _ _ hne]; exact hc
      have own8 : ∀ n, root = some n → n8 ∉ n.own ∧ m ∉ n.own ∧ ∀ r ∈ ls, ∀ g, r.s.blk = some g → g ∉ n.own := fun n hn => by
        obtain ⟨_, _, q3, _⟩ := f2 n hn
        exact ⟨fun e => (by have := (q3 n8 e).1; rw [ub8] at this; cases this), fun e => ubm (q3 m e).1, fun r hr g hg e => (hvk r hr g hg).1 (q3 g e).1⟩
      obtain ⟨fp, hfp⟩ : ∃ fp : Nat → Option Tg, fp = fun c => open Classical in if c = n8 then some .tree else if c = m then some .map else if ∃ n, root = some n ∧ c ∈ n.own then some .node else if ∃ r ∈ ls, r.s.blk = some c then some .vec else if c = n6 then some .src else none := ⟨_, rfl⟩
      have p1 : fp n8 = some .tree := by rw [hfp]; exact if_pos rfl
      have p2 : fp m = some .map := by
        rw [hfp]
        show (if m = n8 then _ else _) = _
        rw [if_neg (Ne.symm hnm), if_pos rfl]
      have p3 : ∀ n c, root = some n → c ∈ n.own → fp c = some .node := fun n c hn hc => by
        obtain ⟨e1, e2, _⟩ := own8 n hn
        rw [hfp]
        show (if c = n8 then _ else _) = _
        rw [if_neg (fun e => e1 (by rw [← e]; exact hc)), if_neg (fun e => e2 (by rw [← e]; exact hc)), if_pos ⟨n, hn, hc⟩]
      have p4 : ∀ r ∈ ls, ∀ g, r.s.blk = some g → fp g = some .vec := fun r hr g hg => by
        obtain ⟨_, e1, e2, _⟩ := hvk r hr g hg
        rw [hfp]
        show (if g = n8 then _ else _) = _
        rw [if_neg e1, if_neg e2, if_neg (fun ⟨n, hn, hc⟩ => (own8 n hn).2.2 r hr g hg hc), if_pos ⟨r, hr, hg⟩]
      have p6 : fp n6 = some .src := by
        rw [hfp]
        show (if n6 = n8 then _ else _) = _
        rw [if_neg h68, if_neg h6m, if_neg (fun ⟨n, hn, hc⟩ => ((f2 n hn).2.2.1 n6 hc).2.2 rfl), if_neg (fun ⟨r, hr, hg⟩ => hr6 r hr hg), if_pos rfl]
      have p5 : ∀ c, fp c ≠ none → c = n8 ∨ c = m ∨ (∃ n, root = some n ∧ c ∈ n.own) ∨ (∃ r ∈ ls, r.s.blk = some c) ∨ c = n6 := fun c hc => by
        rw [hfp] at hc
        by_cases e1 : c = n8
        · exact .inl e1
        · by_cases e2 : c = m
          · exact .inr (.inl e2)
          · by_cases e3 : ∃ n, root = some n ∧ c ∈ n.own
            · exact .inr (.inr (.inl e3))
            · by_cases e4 : ∃ r ∈ ls, r.s.blk = some c
              · exact .inr (.inr (.inr (.inl e4)))
              · by_cases e5 : c = n6
                · exact .inr (.inr (.inr (.inr e5)))
                · exact absurd (by
                    show (if c = n8 then _ else _) = _
                    rw [if_neg e1, if_neg e2, if_neg e3, if_neg e4, if_neg e5]) hc
      have vec22 : ∀ r ∈ ls, Ints u22 r.s r.v := fun r hr => Seg.else (hRw.2 r hr) fun g o hg ho => g1 g o (f1 g o ho ((hR.far r hr).symm g hg) (hvk r hr g hg).2.2.2) (hvk r hr g hg).2.1
      have hix : ixRows T = ls.map Rw.pr := by
        rw [hT]
        unfold ixRows
        rw [List.map_map]
        rfl
      have h22 : u22 n8 = some (.cells (treeC T).toArray 108 (0, 0)) := by rw [hu22, H.ins_same, hT]; rfl
      have hm22 : MapAt u22 m (entL (ls.map entR)) := hmw.else fun o ho => g1 m o (f1 m o ho hs9m (Ne.symm h6m)) (Ne.symm hnm)
      refine hok u22 n8 fp T ⟨⟨⟨h22, p1, by rw [hT]; exact hm22, by rw [hT]; exact p2, by rw [hT]; exact f1s.elim fun st hst => ⟨st, g1 _ _ hst h68⟩, by rw [hT]; exact p6, fun e hem => ?_, fun n hn => ?_⟩, fun c o hc => ?_, fun c hc => ?_, fun c hc => ?_⟩, ⟨by rw [hT]; exact ⟨dm1, dm2⟩, by rw [hT]; exact ⟨by show 1 ≤ a; omega, by show a ≤ 64; omega⟩, fun e hem => ?_, fun e hem => ?_, by rw [hT]; show (ls.map entR).length ≤ 512; rw [List.length_map]; omega, ?_, fun n hn => ?_, fun n hn => (by rw [hT] at hn; exact (f2 n hn).2.2.2.2.2.1), fun n hn => (by rw [hT] at hn; exact (f2 n hn).2.2.2.2.2.2.1), fun n hn => ?_⟩, by rw [hix]; exact hp, by rw [hT], by rw [hT], by rw [hT]⟩
      · rw [hT] at hem
        obtain ⟨r, hr, rfl⟩ := List.mem_map.1 hem
        exact ⟨vec22 r hr, p4 r hr⟩
      · rw [hT] at hn
        obtain ⟨q1, q2, q3, q4, _⟩ := f2 n hn
        obtain ⟨e1, _, _⟩ := own8 n hn
        refine ⟨fun x hx => (q1 x hx).keep (fun c o hc ho => g1 c o ho fun e => e1 (by rw [← e]; exact List.mem_flatMap.2 ⟨x, hx, hc⟩)) fun r hr => vec22 r (q4 x hx r hr), q2, fun c hc => p3 n c hn hc, fun x hx r hr g hg => p4 r (q4 x hx r hr) g hg⟩
      · obtain ⟨h1, h3⟩ := uw c o hc
        exact g1 c o (f1 c o h1 h3 fun e => by rw [e, hn6] at hc; cases hc) fun e => by rw [e, hnu] at hc; cases hc
      · rcases p5 c hc with rfl | rfl | ⟨n, hn, hcn⟩ | ⟨r, hr, hrc⟩ | rfl
        · exact hnu
        · exact hmu
        · exact uub.none ((f2 n hn).2.2.1 c hcn).1
        · exact lu8.none ((hR.inner r hr).fresh c hrc)
        · exact hn6
      · rcases p5 c hc with rfl | rfl | ⟨n, hn, hcn⟩ | ⟨r, hr, hrc⟩ | rfl
        · rw [h22]; simp
        · obtain ⟨_, _, h4, _⟩ := hm22
          rw [h4]; simp
        · obtain ⟨o, ho⟩ := Option.ne_none_iff_exists'.1 ((f2 n hn).2.2.1 c hcn).2.1
          rw [g1 c o ho fun e => (own8 n hn).1 (by rw [← e]; exact hcn)]; simp
        · obtain ⟨o, ho⟩ := Option.ne_none_iff_exists'.1 (own_known (hR.inner r hr) hrc)
          obtain ⟨_, e1, e2, e6⟩ := hvk r hr c hrc
          rw [g1 c o (f1 c o (hew c o ho e2) ((hR.far r hr).symm c hrc) e6) e1]; simp
        · obtain ⟨st, hst⟩ := f1s
          rw [g1 c _ hst h68]; simp
      · rw [hT] at hem
        obtain ⟨r, hr, rfl⟩ := List.mem_map.1 hem
        exact hlok.id r hr
      · rw [hT] at hem ⊢
        obtain ⟨r, hr, rfl⟩ := List.mem_map.1 hem
        exact hlok.v r hr
      · rw [hix, hT]
        exact f3
      · rw [hT] at hn ⊢
        exact (f2 n hn).2.2.2.2.1
      · rw [hT] at hn ⊢
        have := (f2 n hn).2.2.2.2.2.2.2
        show n.heads.length ≤ 1100 * 0 + 2000
        omega
    rw [ho8] at ub8
    refine spec.cut (src := n6) (by omega) (H.cell?_of ub8 1) (H.cell?_of ub8 2) ub6 ⟨_, d6w⟩ hs96 how hvb hlok (fun e0 u' hu' => ?_) fun hne u' n hc => ?_
    · exact fin none u' (fun c o hc _ _ => hu' c o hc) ⟨_, hu' _ _ d6w⟩ (fun n hn => by cases hn) (by rw [e0]; exact .refl _)
    · exact fin (some n) u' (fun c o hc' hne' h6' => hc.else' c o hc' hne' h6') hc.src (fun n' hn' => by
        obtain rfl := Option.some.inj hn'
        exact ⟨hc.one, hc.nodup, hc.out, hc.rows, hc.ok, hc.shp, hc.bin, hc.size⟩) hc.all

end Go.Proofs.YtbohcdjoglidhaaGreatDoor.Vp

/- VcVp5 -/
namespace Go.Proofs.YtbohcdjoglidhaaGreatDoor.Vp

/-- A part's ball with a vector more. -/
def growH (h : PH) (v : List Int) : PH := { h with rad := if h.rad < sqTo h.lo v h.lo.length then sqTo h.lo v h.lo.length else h.rad }

theorem ball_of {d : Int} {h : PH} {ks : List PN} (hsh : h.sh = 3) (hp : PtOk d (PN.mk h ks).pt) : 1 ≤ d ∧ d ≤ 64 ∧ h.hi = [] ∧ vok h.lo ∧ (h.lo.length : Int) = d ∧ Dok h.rad := by
  have h1 := hp.reg
  rw [PN.pt_eq] at h1
  obtain ⟨hd, _, _, hs⟩ := h1
  rcases hs with ⟨e, _⟩ | ⟨e, _⟩ | ⟨_, e⟩
  · have : h.sh = 1 := e
    omega
  · have : h.sh = 2 := e
    omega
  · exact ⟨hd.1, hd.2, e.1, e.2.1, e.2.2.1, e.2.2.2⟩

theorem growH_ge (h : PH) (v : List Int) : h.rad ≤ (growH h v).rad ∧ sqTo h.lo v h.lo.length ≤ (growH h v).rad := by
  unfold growH
  by_cases e : h.rad < sqTo h.lo v h.lo.length
  · simp only [if_pos e]; omega
  · simp only [if_neg e]; omega

/-- A grown part is a part that may be, and holds the vector. -/
theorem grow_ok {d : Int} {h : PH} {ks : List PN} {v : List Int} (hsh : h.sh = 3) (hp : PtOk d (PN.mk h ks).pt) (hv : vok v) (hvd : (v.length : Int) = d) : PtOk d (PN.mk (growH h v) ks).pt ∧ Inside ((PN.mk (growH h v) ks).pt.rgn []) v := by
  obtain ⟨d1, d2, hi0, b1, b2, b3⟩ := ball_of hsh hp
  have h2 := hp.ins
  have h3 := hp.kids
  rw [PN.pt_eq] at h2 h3
  obtain ⟨g1, g2⟩ := growH_ge h v
  have dk : Dok (growH h v).rad := by
    unfold growH
    by_cases e : h.rad < sqTo h.lo v h.lo.length
    · simp only [if_pos e]; exact sqTo_ok b1 hv (by omega)
    · simp only [if_neg e]; exact b3
  have insV : Inside ((PN.mk (growH h v) ks).pt.rgn []) v := by
    rw [PN.pt_eq]
    refine ⟨fun e => ?_, fun _ => g2⟩
    have : h.sh = 2 := e
    omega
  refine ⟨?_, insV⟩
  rw [PN.pt_eq]
  refine .mk ⟨⟨d1, d2⟩, List.Pairwise.nil, fun x hx => (by cases hx), .inr (.inr ⟨hsh, hi0, b1, b2, dk⟩)⟩ (fun x hx => ?_) h3
  have hx' : x ∈ (Pt.mk h.sh h.lo h.hi h.rad (h.rows.map Rw.pr) (ks.map PN.pt)).all := hx
  obtain ⟨_, z⟩ := h2 x hx'
  refine ⟨fun e => ?_, fun _ => Int.le_trans (z hsh) g1⟩
  have : h.sh = 2 := e
  omega

theorem st_rad {u : H} {h : PH} (hc : u h.b = some (.cells (partC h).toArray 132 (0, 0))) (r : Int) {f : H → Prop}
    (hf : f (u.ins h.b (.cells (partC { h with rad := r }).toArray 132 (0, 0)))) : H.St u ((Addr.mk h.b 0 none).add 3) [.int .u64 (hiW r), .int .u64 (loW r)] f := by
  exact ⟨_, _, hc, rfl, by simp [partC, Addr.add_lit], by simp [Value.oneCell'], hf⟩

theorem spec.grow {ub u : H} {h : PH} {kb : List Nat} {s : Sl} {v : List Int} {K : Int → Int → H → Prop} (hv : Ints ub s v) (hub : ub.le u) (hph : PhAt u (h, kb)) (hnd : h.blks.Nodup) (hout : ∀ c ∈ h.blks, ub c = none) (hrv : ∀ r ∈ h.rows, Ints ub r.s r.v) (hlo : vok h.lo) (hvk : vok v) (h1 : h.lo.length = v.length) (h0 : 1 ≤ v.length) (_hrad : Dok h.rad)
    (hK : ∀ x y u', PhAt u' (growH h v, kb) → (∀ c o, u c = some o → c ∉ h.blks → u' c = some o) → (∀ c, u c ≠ none → u' c ≠ none) → K x y u') : C.vptree_grow (some ⟨h.b, 0, none⟩) s u K := by
  have hcell : u h.b = some (.cells (partC h).toArray 132 (0, 0)) := hph.cell
  apply vc.vptree_grow
  refine ⟨_, rfl, h.sl, H.cell?_of hcell 1, spec.vec_Dist hph.lo.f.ints (hv.mono hub) hlo (by show 1 ≤ h.lo.length; omega) hvk h1 fun x y hx hy hw => ⟨_, rfl, _, H.cell?_of hcell 3, _, H.cell?_of hcell 4, spec.wide_Cmp hy (loU _) ?_⟩⟩
  have hw : wv x y = sqTo h.lo v h.lo.length := hw
  rw [wv_hl, hw]
  by_cases e : h.rad < sqTo h.lo v h.lo.length
  · refine ⟨fun _ => ⟨_, rfl, ?_⟩, fun hn => absurd ?_ hn⟩
    · obtain ⟨ex, ey⟩ := wv_U hx hy
      rw [hw] at ex ey
      have hg : growH h v = { h with rad := sqTo h.lo v h.lo.length } := by unfold growH; rw [if_pos e]
      have key : H.St u ((Addr.mk h.b 0 none).add 3) [.int .u64 (hiW (sqTo h.lo v h.lo.length)), .int .u64 (loW (sqTo h.lo v h.lo.length))] fun u12 => K x y u12 := by
        refine st_rad hcell _ ?_
        rw [← hg]
        obtain ⟨w, hw'⟩ : ∃ w, w = u.ins h.b (.cells (partC (growH h v)).toArray 132 (0, 0)) := ⟨_, rfl⟩
        rw [← hw']
        have ew : ∀ c o, u c = some o → c ≠ h.b → w c = some o := fun c o hc hne => by rw [hw', H.ins_other _ _ hne]; exact hc
        have hubw : ub.le w := fun c o hc => ew c o (hub c o hc) fun e => by rw [e, hout h.b (List.mem_cons_self ..)] at hc; cases hc
        have nb : ∀ g, (h.sl.blk = some g ∨ h.sg.blk = some g ∨ h.sr.blk = some g ∨ h.sk.blk = some g) → g ≠ h.b := fun g hg e => by
          unfold PH.blks at hnd
          rw [List.nodup_cons] at hnd
          refine hnd.1 ?_
          rw [← e, List.mem_append, List.mem_append, List.mem_append]
          rcases hg with e | e | e | e
          · exact .inl (.inl (.inl (by rw [e]; simp)))
          · exact .inl (.inl (.inr (by rw [e]; simp)))
          · exact .inl (.inr (by rw [e]; simp))
          · exact .inr (by rw [e]; simp)
        refine hK x y w ⟨?_, hph.lo.le fun c o hc ho => ew c o ho (nb c (.inl hc)), hph.hi.le fun c o hc ho => ew c o ho (nb c (.inr (.inl hc))), hph.rws.le fun c o hc ho => ew c o ho (nb c (.inr (.inr (.inl hc)))), fun r hr => (hrv r hr).mono hubw, Seg.else hph.kid fun c o hc ho => ew c o ho (nb c (.inr (.inr (.inr hc))))⟩ (fun c o hc hm => ew c o hc fun e => hm (by rw [e]; exact List.mem_cons_self ..)) fun c hc => ?_
        · show w h.b = _
          rw [hw']; exact H.ins_same _ _ _
        · by_cases e2 : c = h.b
          · rw [e2, hw', H.ins_same]; simp
          · obtain ⟨o, ho⟩ := Option.ne_none_iff_exists'.1 hc
            rw [ew c o ho e2]; simp
      rw [← ex, ← ey] at key
      exact key
    · rw [if_neg (by omega), if_pos e]
      decide
  · have hg : growH h v = h := by unfold growH; rw [if_neg e]
    refine ⟨fun hp => absurd hp ?_, fun _ => hK x y u (by rw [hg]; exact hph) (fun c o hc _ => hc) fun c hc => hc⟩
    rw [if_neg e]
    split <;> decide

end Go.Proofs.YtbohcdjoglidhaaGreatDoor.Vp

/- VcVp6 -/
namespace Go.Proofs.YtbohcdjoglidhaaGreatDoor.Vp

structure PutRes (u0 u : H) (fp : Nat → Option Tg) (b : Nat) (T : Tr) (id : Int) (v : List Int) (u' : H) (fp' : Nat → Option Tg) (T' : Tr) : Prop where
  is : In u0 u' fp' b T'
  turn : TurnG u fp u' fp'
  ok : TOk T'
  rows : (ixRows T').Perm ((id, v) :: (ixRows T).filter fun x => x.1 != id)
  dim : T'.dim = T.dim
  leaf : T'.leaf = T.leaf
  gas : T'.gas ≤ T.gas + 1

/-- The tree with a row more, in memory. -/
structure PutFin (u1 : H) (fp : Nat → Option Tg) (b : Nat) (T : Tr) (id : Int) (s : Sl) (v : List Int) (u' : H) (r : PN) : Prop where
  cell : u' b = some (.cells (treeC { T with root := some r }).toArray 108 (0, 0))
  map : MapAt u' T.m (entL (T.w ++ [(id, (s, v))]))
  src : ∃ st, u' T.src = some (.cells #[.int .u64 st] 134 (0, 0))
  sv : Ints u' s v
  sk : ∀ g, s.blk = some g → u1 g = none ∧ u' g ≠ none
  keep : ∀ c o, u1 c = some o → fp c = none ∨ fp c = some .vec → u' c = some o
  kn : ∀ c, u1 c ≠ none → fp c ≠ some .node → u' c ≠ none
  one : ∀ x ∈ r.heads, PhAt u' x
  nodup : r.own.Nodup
  own : ∀ c ∈ r.own, (fp c = some .node ∨ (u1 c = none ∧ s.blk ≠ some c)) ∧ u' c ≠ none
  rws : ∀ x ∈ r.heads, ∀ y ∈ x.1.rows, ∀ g, y.s.blk = some g → fp g = some .vec ∨ s.blk = some g
  all : r.pt.all.Perm ((id, v) :: rootAll T)
  ok : PtOk T.dim r.pt
  shp : PtSh 3 r.pt
  bin : PtBin r.pt
  size : r.heads.length ≤ 1100 * (T.gas + 1) + 2000

theorem PutFin.res {u0 u1 u' : H} {fp : Nat → Option Tg} {b : Nat} {T : Tr} {id : Int} {s : Sl} {v : List Int} {r : PN} (f : PutFin u1 fp b T id s v u' r) (h : In u0 u1 fp b T) (hT : TOk T) (hid : 1 ≤ id ∧ id ≤ 1000000000) (hv : (v.length : Int) = T.dim ∧ vok v) (hl : T.w.length < 512) :
    ∃ fp' T', In u0 u' fp' b T' ∧ TurnG u1 fp u' fp' ∧ TOk T' ∧ (ixRows T').Perm ((id, v) :: ixRows T) ∧ T'.dim = T.dim ∧ T'.leaf = T.leaf ∧ T'.gas ≤ T.gas + 1 := by
  obtain ⟨T', hT'⟩ : ∃ T' : Tr, T' = { T with root := some r, w := T.w ++ [(id, (s, v))], gas := T.gas + 1 } := ⟨_, rfl⟩
  obtain ⟨fp', hfp⟩ : ∃ fp' : Nat → Option Tg, fp' = fun c => open Classical in if c ∈ r.own then some .node else if s.blk = some c then some .vec else if fp c = some .node then none else fp c := ⟨_, rfl⟩
  have q1 : ∀ c ∈ r.own, fp' c = some .node := fun c hc => by rw [hfp]; exact if_pos hc
  have q2 : ∀ c, s.blk = some c → fp' c = some .vec := fun c hc => by
    have hno : c ∉ r.own := fun hm => by
      rcases (f.own c hm).1 with e | e
      · exact h.known c (by rw [e]; simp) (f.sk c hc).1
      · exact e.2 hc
    rw [hfp]
    show (if c ∈ r.own then _ else _) = _
    rw [if_neg hno, if_pos hc]
  have q3 : ∀ c t, fp c = some t → t ≠ .node → fp' c = some t := fun c t hc ht => by
    have hk := h.known c (by rw [hc]; simp)
    have hno : c ∉ r.own := fun hm => by
      rcases (f.own c hm).1 with e | e
      · rw [hc] at e; exact ht (Option.some.inj e)
      · exact hk e.1
    have hns : s.blk ≠ some c := fun e => hk (f.sk c e).1
    rw [hfp]
    show (if c ∈ r.own then _ else _) = _
    rw [if_neg hno, if_neg hns, if_neg (by rw [hc]; exact fun e => ht (Option.some.inj e)), hc]
  have q4 : ∀ c, fp' c ≠ none → c ∈ r.own ∨ s.blk = some c ∨ (fp c ≠ none ∧ fp c ≠ some .node) := fun c hc => by
    by_cases e1 : c ∈ r.own
    · exact .inl e1
    · by_cases e2 : s.blk = some c
      · exact .inr (.inl e2)
      · by_cases e3 : fp c = some .node
        · exact absurd (by
            rw [hfp]
            show (if c ∈ r.own then _ else _) = _
            rw [if_neg e1, if_neg e2, if_pos e3]) hc
        · refine .inr (.inr ⟨fun e => hc ?_, e3⟩)
          rw [hfp]
          show (if c ∈ r.own then _ else _) = _
          rw [if_neg e1, if_neg e2, if_neg e3, e]
  have tr := h.tr
  refine ⟨fp', T', ⟨⟨by rw [hT']; exact f.cell, q3 _ _ tr.btag (by simp), by rw [hT']; exact f.map, by rw [hT']; exact q3 _ _ tr.mtag (by simp), by rw [hT']; exact f.src, by rw [hT']; exact q3 _ _ tr.stag (by simp), fun e he => ?_, fun n hn => ?_⟩, fun c o hc => ?_, fun c hc => ?_, fun c hc => ?_⟩, ⟨fun c o hc hf => f.keep c o hc (.inl hf), fun c hc => ?_⟩,
    ⟨by rw [hT']; exact hT.dm, by rw [hT']; exact hT.lf, fun e he => ?_, fun e he => ?_, ?_, ?_, fun n hn => ?_, fun n hn => ?_, fun n hn => ?_, fun n hn => ?_⟩, ?_, by rw [hT'], by rw [hT'], by rw [hT']; exact Nat.le_refl _⟩
  · rw [hT'] at he
    rcases List.mem_append.1 he with he | he
    · obtain ⟨v1, v2⟩ := tr.vec e he
      exact ⟨Seg.else v1 fun g o hg ho => f.keep g o ho (.inr (v2 g hg)), fun g hg => q3 g _ (v2 g hg) (by simp)⟩
    · rw [List.mem_singleton.1 he]
      exact ⟨f.sv, q2⟩
  · rw [hT'] at hn
    obtain rfl := Option.some.inj hn
    exact ⟨f.one, f.nodup, q1, fun x hx y hy g hg => (f.rws x hx y hy g hg).elim (fun e => q3 g _ e (by simp)) fun e => q2 g e⟩
  · refine f.keep c o (h.le c o hc) (.inl ?_)
    cases e : fp c with
    | none => rfl
    | some t => have := h.out c (by rw [e]; simp); rw [hc] at this; cases this
  · rcases q4 c hc with e | e | e
    · rcases (f.own c e).1 with e | e
      · exact h.out c (by rw [e]; simp)
      · exact h.le.none e.1
    · exact h.le.none (f.sk c e).1
    · exact h.out c e.1
  · rcases q4 c hc with e | e | e
    · exact (f.own c e).2
    · exact (f.sk c e).2
    · exact f.kn c (h.known c e.1) e.2
  · rcases q4 c hc with e | e | e
    · rcases (f.own c e).1 with e | e
      · exact .inl (by rw [e]; simp)
      · exact .inr e.1
    · exact .inr (f.sk c e).1
    · exact .inl e.1
  · rw [hT'] at he
    rcases List.mem_append.1 he with he | he
    · exact hT.ids e he
    · rw [List.mem_singleton.1 he]; exact hid
  · rw [hT'] at he ⊢
    rcases List.mem_append.1 he with he | he
    · exact hT.vec e he
    · rw [List.mem_singleton.1 he]; exact hv
  · rw [hT']
    show (T.w ++ [(id, (s, v))]).length ≤ 512
    rw [List.length_append]
    simp only [List.length_cons, List.length_nil]
    omega
  · rw [hT']
    show r.pt.all.Perm ((T.w ++ [(id, (s, v))]).map fun e => (e.1, e.2.2))
    rw [List.map_append]
    exact f.all.trans ((List.Perm.cons _ hT.rows).trans (List.perm_append_singleton _ _).symm)
  · rw [hT'] at hn ⊢
    obtain rfl := Option.some.inj hn
    exact f.ok
  · rw [hT'] at hn
    obtain rfl := Option.some.inj hn
    exact f.shp
  · rw [hT'] at hn
    obtain rfl := Option.some.inj hn
    exact f.bin
  · rw [hT'] at hn ⊢
    obtain rfl := Option.some.inj hn
    exact f.size
  · rw [hT']
    show ((T.w ++ [(id, (s, v))]).map fun e => (e.1, e.2.2)).Perm _
    rw [List.map_append]
    exact List.perm_append_singleton _ _

end Go.Proofs.YtbohcdjoglidhaaGreatDoor.Vp

/- VcVp7 -/
namespace Go.Proofs.YtbohcdjoglidhaaGreatDoor.Vp

theorem blks_perm (h : PH) : h.blks.Perm (h.sr.blk.toList ++ (h.b :: (h.sl.blk.toList ++ h.sg.blk.toList ++ h.sk.blk.toList))) := by
  unfold PH.blks
  refine List.Perm.trans (List.Perm.cons _ ?_) List.perm_middle.symm
  generalize h.sl.blk.toList ++ h.sg.blk.toList = a
  generalize h.sr.blk.toList = r
  generalize h.sk.blk.toList = k
  rw [List.append_assoc]
  exact List.perm_append_comm_assoc a r k

theorem blks_sr {h : PH} (hn : h.blks.Nodup) {s : Sl} (rows : List Rw) (hs : ∀ g, s.blk = some g → h.sr.blk = some g ∨ g ∉ h.blks) : ({ h with sr := s, rows := rows } : PH).blks.Nodup := by
  have h1 := (blks_perm h).nodup_iff.1 hn
  rw [(blks_perm _).nodup_iff]
  rw [List.nodup_append] at h1 ⊢
  obtain ⟨_, h3, h4⟩ := h1
  refine ⟨?_, h3, fun c hc c' hc' e => ?_⟩
  · show s.blk.toList.Nodup
    cases s.blk <;> simp
  · subst e
    have hc : s.blk = some c := by simpa using hc
    rcases hs c hc with h5 | h5
    · exact h4 c (by rw [h5]; simp) c hc' rfl
    · exact h5 ((blks_perm h).mem_iff.2 (List.mem_append_right _ hc'))

theorem leaf_ok {d : Int} {h : PH} (hp : PtOk d (PN.mk h []).pt) {id : Int} {sv s : Sl} {v : List Int} (hin : Inside ((PN.mk h []).pt.rgn []) v) : PtOk d (PN.mk { h with sr := s, rows := h.rows ++ [⟨id, sv, v⟩] } []).pt ∧ (PN.mk { h with sr := s, rows := h.rows ++ [⟨id, sv, v⟩] } []).pt.all.Perm ((id, v) :: (PN.mk h []).pt.all) := by
  have e1 : (PN.mk { h with sr := s, rows := h.rows ++ [⟨id, sv, v⟩] } []).pt.all = (PN.mk h []).pt.all ++ [(id, v)] := by
    rw [PN.pt_all, PN.pt_all, PN.heads, PN.heads, PN.headsL]
    simp [Rw.pr]
  have h1 := hp.reg
  have h2 := hp.ins
  refine ⟨.mk h1 (fun x hx => ?_) fun k hk => (by rw [PN.pt_eq] at hk; cases hk), by rw [e1]; exact List.perm_append_singleton _ _⟩
  rw [e1] at hx
  rcases List.mem_append.1 hx with hx | hx
  · exact h2 x hx
  · rw [List.mem_singleton.1 hx]
    exact hin

theorem st_part {u : H} {h1 h2 : PH} {p : Nat} (hc : u p = some (.cells (partC h1).toArray 132 (0, 0))) {f : H → Prop} (hf : f (u.ins p (.cells (partC h2).toArray 132 (0, 0)))) :
    H.St u (Addr.mk p 0 none) [.int .i64 h2.sh, .slice h2.sl.a h2.sl.n h2.sl.c, .slice h2.sg.a h2.sg.n h2.sg.c, .int .u64 (hiW h2.rad), .int .u64 (loW h2.rad), .slice none 0 0, .slice h2.sr.a h2.sr.n h2.sr.c, .slice h2.sk.a h2.sk.n h2.sk.c] f :=
  ⟨_, _, hc, rfl, by simp [partC], by simp [Value.oneCell'], by
    have e : wr (partC h1).toArray 0 [.int .i64 h2.sh, .slice h2.sl.a h2.sl.n h2.sl.c, .slice h2.sg.a h2.sg.n h2.sg.c, .int .u64 (hiW h2.rad), .int .u64 (loW h2.rad), .slice none 0 0, .slice h2.sr.a h2.sr.n h2.sr.c, .slice h2.sk.a h2.sk.n h2.sk.c] = (partC h2).toArray := by simp [wr, partC]
    show f (u.ins p (.cells (wr (partC h1).toArray 0 _) _ (0, 0)))
    rw [e]
    exact hf⟩

theorem spec.leaf {ub u : H} {d leaf : Int} {v : List Int} {W : Nat → Prop} {n0 : PN} {fs : List Hol} {h : PH} {b src : Nat} {id : Int} {sv : Sl} {Fin : H → Prop} (w : Way 3 ub u d v (fun c => c ≠ src) W n0 fs (.mk h [])) (hlf : 1 ≤ leaf) (tl : ub.cell? ((Addr.mk b 0 none).add 1) = some (.int .i64 leaf)) (ts : ub.cell? ((Addr.mk b 0 none).add 2) = some (.pointer (some ⟨src, 0, none⟩))) (hsrc : ∃ st, u src = some (.cells #[.int .u64 st] 134 (0, 0))) (hbin : PtBin (plug fs (.mk h [])).pt)
    (hsv : Ints ub sv v) (hrok : Rok (h.rows ++ [⟨id, sv, v⟩]) d) (hin : Inside ((PN.mk h []).pt.rgn []) v) (hfin : ∀ u' r, Down 3 ub u' d (id, v) (fun c => c ≠ src) (fun y => ∀ g, y.s.blk = some g → W g ∨ sv.blk = some g) n0 r 1100 → PtBin r.pt → (∃ st, u' src = some (.cells #[.int .u64 st] 134 (0, 0))) → Fin u') :
    (SemT Tryz.prog (Instr.buildSlice 43 1 #[(0, (Value.agg #[(Value.int IntKind.i64 id), (Value.slice sv.a sv.n sv.c)]))]) [(Sh.one CT.slice)] u (fun (s61 : Sl) (u62 : H) => (H.le u u62) ∧ (SemT Tryz.prog (Builtin.append_ #[43, 43] 43 #[(Value.slice h.sr.a h.sr.n h.sr.c), (Value.slice s61.a s61.n s61.c)]) [(Sh.one CT.slice)] u62 (fun (s63 : Sl) (u64 : H) => ∃ r65 : Addr, ((some (Addr.mk h.b 0 none)) = (some r65)) ∧ (H.St u64 (Addr.add r65 6) [(Value.slice s63.a s63.n s63.c)] (fun (u66 : H) => ∃ r67 : Addr, ((some (Addr.mk h.b 0 none)) = (some r67)) ∧ (∃ r68 : Addr, ((some (Addr.mk b 0 none)) = (some r68)) ∧ (∃ s69 : Sl, ((H.cell? u66 (Addr.add r67 6)) = (some (Value.slice s69.a s69.n s69.c))) ∧ (∃ x70 : Int, ((H.cell? u66 (Addr.add r68 1)) = (some (Value.int IntKind.i64 x70))) ∧ (((x70 < (s69.n : Int)) → ∃ r71 : Addr, ((some (Addr.mk h.b 0 none)) = (some r71)) ∧ (∃ s72 : Sl, ((H.cell? u66 (Addr.add r71 6)) = (some (Value.slice s72.a s72.n s72.c))) ∧ (C.vptree_Tree__cut (some (Addr.mk b 0 none)) s72 u66 (fun (p73 : (Option Addr)) (u74 : H) => ∃ r75 : Addr, (p73 = (some r75)) ∧ (∃ x76 : Int, ((H.cell? u74 r75) = (some (Value.int IntKind.i64 x76))) ∧ (∃ s77 : Sl, ((H.cell? u74 (Addr.add r75 1)) = (some (Value.slice s77.a s77.n s77.c))) ∧ (∃ s78 : Sl, ((H.cell? u74 (Addr.add r75 2)) = (some (Value.slice s78.a s78.n s78.c))) ∧ (∃ x79 : Int, ((H.cell? u74 (Addr.add r75 3)) = (some (Value.int IntKind.u64 x79))) ∧ (∃ x80 : Int, ((H.cell? u74 (Addr.add r75 4)) = (some (Value.int IntKind.u64 x80))) ∧ (∃ s81 : Sl, ((H.cell? u74 (Addr.add r75 5)) = (some (Value.slice s81.a s81.n s81.c))) ∧ (∃ s82 : Sl, ((H.cell? u74 (Addr.add r75 6)) = (some (Value.slice s82.a s82.n s82.c))) ∧ (∃ s83 : Sl, ((H.cell? u74 (Addr.add r75 7)) = (some (Value.slice s83.a s83.n s83.c))) ∧ (∃ r84 : Addr, ((some (Addr.mk h.b 0 none)) = (some r84)) ∧ (H.St u74 r84 [(Value.int IntKind.i64 x76), (Value.slice s77.a s77.n s77.c), (Value.slice s78.a s78.n s78.c), (Value.int IntKind.u64 x79), (Value.int IntKind.u64 x80), (Value.slice s81.a s81.n s81.c), (Value.slice s82.a s82.n s82.c), (Value.slice s83.a s83.n s83.c)] (fun (u85 : H) => Fin u85))))))))))))))) ∧ ((¬ (x70 < (s69.n : Int))) → Fin u66))))))))))) := by
  obtain ⟨hph, hnd, hout, hvec, hsh⟩ := w.head
  obtain ⟨st0, hst0⟩ := hsrc
  have ubs : ub src = none := by
    cases e : ub src with
    | none => rfl
    | some o => exact absurd rfl (w.known src (by rw [e]; simp))
  have srcO : src ∉ h.blks := fun hm => (hout src hm).2.2 rfl
  have hcell : u h.b = some (.cells (partC h).toArray 132 (0, 0)) := hph.cell
  have hO : OwnF ub u 24 2 h.sr (h.rows.flatMap encR) := ⟨hph.rws, w.base, fun g hg => (hout g (by simp [PH.blks, hg])).1⟩
  have hsn : h.sr.n = h.rows.length := flat_n encR_len (by decide) hO.own.seg
  have hrl := hrok.len
  rw [List.length_append] at hrl
  simp only [List.length_cons, List.length_nil] at hrl
  -- the blocks of the part
  have hq : h.sr.blk ≠ some h.b := fun e => by
    have h1 := (blks_perm h).nodup_iff.1 hnd
    rw [List.nodup_append] at h1
    exact h1.2.2 h.b (by rw [e]; simp) h.b (List.mem_cons_self ..) rfl
  have hqo : ∀ g, (h.sl.blk = some g ∨ h.sg.blk = some g ∨ h.sk.blk = some g) → g ∈ h.blks ∧ g ≠ h.b ∧ h.sr.blk ≠ some g := fun g hg => by
    have h1 := (blks_perm h).nodup_iff.1 hnd
    rw [List.nodup_append] at h1
    have h2 : g ∈ h.sl.blk.toList ++ h.sg.blk.toList ++ h.sk.blk.toList := by
      rw [List.mem_append, List.mem_append]
      rcases hg with e | e | e
      · exact .inl (.inl (by rw [e]; simp))
      · exact .inl (.inr (by rw [e]; simp))
      · exact .inr (by rw [e]; simp)
    exact ⟨(blks_perm h).mem_iff.2 (List.mem_append_right _ (List.mem_cons_of_mem _ h2)), fun e => (List.nodup_cons.1 h1.2.1).1 (by rw [← e]; exact h2), fun e => h1.2.2 g (by rw [e]; simp) g (List.mem_cons_of_mem _ h2) rfl⟩
  refine sem_push tRows (build_row1 id sv) (by decide) rfl (by simp [Value.oneCell']) hO (by omega) (by rw [hsn]; show (h.rows.length + 1) * _ ≤ _; omega) fun s' u64 ho' hn' he' hbl _ => ?_
  have ho' : OwnF ub u64 24 2 s' ((h.rows ++ [(⟨id, sv, v⟩ : Rw)]).flatMap encR) := by rw [List.flatMap_append]; exact ho'
  have hsb : s'.blk ≠ some h.b := fun e => by
    rcases hbl _ e with e | e
    · exact hq e
    · rw [hcell] at e; cases e
  have hc64 : u64 h.b = some (.cells (partC h).toArray 132 (0, 0)) := he' _ _ hcell hq
  refine ⟨_, rfl, st_rows hc64 s' (h.rows ++ [⟨id, sv, v⟩]) ?_⟩
  obtain ⟨g1, hg1⟩ : ∃ g1 : PH, g1 = { h with sr := s', rows := h.rows ++ [⟨id, sv, v⟩] } := ⟨_, rfl⟩
  have g1b : g1.b = h.b := by rw [hg1]
  rw [← hg1]
  obtain ⟨u66, hu66⟩ : ∃ u66, u66 = u64.ins h.b (.cells (partC g1).toArray 132 (0, 0)) := ⟨_, rfl⟩
  rw [← hu66]
  have c66 : u66 h.b = some (.cells (partC g1).toArray 132 (0, 0)) := by rw [hu66]; exact H.ins_same _ _ _
  have f66 : ∀ c o, u64 c = some o → c ≠ h.b → u66 c = some o := fun c o hc hne => by rw [hu66, H.ins_other _ _ hne]; exact hc
  have e66 : ∀ c o, u c = some o → c ≠ h.b → h.sr.blk ≠ some c → u66 c = some o := fun c o hc h2 h3 => f66 c o (he' c o hc h3) h2
  have mB : h.b ∈ h.blks := List.mem_cons_self ..
  have mR : ∀ {g}, h.sr.blk = some g → g ∈ h.blks := fun {g} e => by simp [PH.blks, e]
  have el66 : ∀ c o, u c = some o → c ∉ h.blks → u66 c = some o := fun c o hc hm => e66 c o hc (fun e => hm (by rw [e]; exact mB)) fun e => hm (mR e)
  have hub66 : ub.le u66 := fun c o hc => el66 c o (w.base c o hc) fun hm => by rw [(hout c hm).1] at hc; cases hc
  have own66 : OwnF ub u66 24 2 s' ((h.rows ++ [(⟨id, sv, v⟩ : Rw)]).flatMap encR) := ⟨ho'.own.le fun c o hc ho => f66 c o ho fun e => hsb (by rw [← e]; exact hc), hub66, ho'.fresh⟩
  have cB : u66.cell? ((Addr.mk h.b 0 none).add 6) = some (.slice s'.a s'.n s'.c) := by
    have : g1.sr = s' := by rw [hg1]
    have h9 : u66.cell? ((Addr.mk h.b 0 none).add 6) = some (.slice g1.sr.a g1.sr.n g1.sr.c) := H.cell?_of c66 6
    rw [this] at h9
    exact h9
  have nown : (PN.mk h []).own = h.blks := by unfold PN.own; rw [PN.heads, PN.headsL]; simp
  have hvN : ∀ r ∈ h.rows ++ [(⟨id, sv, v⟩ : Rw)], Ints ub r.s r.v ∧ ∀ g, r.s.blk = some g → W g ∨ sv.blk = some g := fun r hr => by
    rcases List.mem_append.1 hr with hr | hr
    · exact ⟨(hvec r hr).1, fun g hg => .inl ((hvec r hr).2 g hg)⟩
    · rw [List.mem_singleton.1 hr]
      exact ⟨hsv, fun g hg => .inr hg⟩
  refine ⟨_, rfl, _, rfl, s', cB, leaf, H.le.cell hub66 tl, fun _ => ?_, fun _ => ?_⟩
  · -- too many: cut
    have s66 : u66 src = some (.cells #[.int .u64 st0] 134 (0, 0)) := el66 _ _ hst0 srcO
    have sns : s'.blk ≠ some src := fun e => by
      rcases hbl _ e with e | e
      · exact srcO (mR e)
      · rw [hst0] at e; cases e
    obtain ⟨ux, hux⟩ : ∃ ux : H, ux = fun c => if c = src then none else H.sans u66 s' c := ⟨_, rfl⟩
    have ux1 : ∀ {c}, c ≠ src → ux c = H.sans u66 s' c := fun {c} hc => by rw [hux]; exact if_neg hc
    have ux0 : ux src = none := by rw [hux]; exact if_pos rfl
    have uxle : ux.le u66 := fun c o hc => by
      by_cases e : c = src
      · rw [e, ux0] at hc; cases hc
      · rw [ux1 e] at hc; exact sans_le _ _ c o hc
    have lux : ub.le ux := fun c o hc => by
      rw [ux1 (fun e => by rw [e, ubs] at hc; cases hc), sans_at (fun e => by rw [ho'.fresh c e] at hc; cases hc)]
      exact hub66 c o hc
    refine ⟨_, rfl, s', cB, spec.cut (ub := ux) (src := src) hlf (H.le.cell lux tl) (H.le.cell lux ts) ux0 ⟨_, s66⟩ sns ⟨own66.own, uxle, fun g hg => by rw [ux1 (fun e => sns (by rw [← e]; exact hg))]; exact if_pos hg⟩ (fun r hr => ((hvN r hr).1).mono lux) hrok (fun e => absurd e (by simp)) fun _ u74 n2 hc => ?_⟩
    obtain ⟨hh, kk⟩ := n2
    have hone := hc.one (hh, kk.map PN.b) (by rw [PN.heads]; exact List.mem_cons_self ..)
    have hcc : u74 hh.b = some (.cells (partC hh).toArray 132 (0, 0)) := hone.cell
    refine ⟨_, rfl, _, H.cell?_of hcc 0, hh.sl, H.cell?_of hcc 1, hh.sg, H.cell?_of hcc 2, _, H.cell?_of hcc 3, _, H.cell?_of hcc 4, ⟨none, 0, 0⟩, H.cell?_of hcc 5, hh.sr, H.cell?_of hcc 6, hh.sk, H.cell?_of hcc 7, _, rfl, ?_⟩
    have c74 : u74 h.b = some (.cells (partC g1).toArray 132 (0, 0)) := hc.else' _ _ c66 hsb (fun e => srcO (by rw [← e]; exact mB))
    refine st_part (h2 := hh) c74 ?_
    obtain ⟨g2, hg2⟩ : ∃ g2 : PH, g2 = { hh with b := h.b } := ⟨_, rfl⟩
    have eg2 : partC hh = partC g2 := by rw [hg2]; rfl
    rw [eg2]
    obtain ⟨u85, hu85⟩ : ∃ u85, u85 = u74.ins h.b (.cells (partC g2).toArray 132 (0, 0)) := ⟨_, rfl⟩
    rw [← hu85]
    have e85 : ∀ c o, u74 c = some o → c ≠ h.b → u85 c = some o := fun c o hc' hne => by rw [hu85, H.ins_other _ _ hne]; exact hc'
    have hnB : h.b ∉ (PN.mk hh kk).own := fun hm => by
      have := (hc.out _ hm).1
      rw [ux1 (fun e => srcO (by rw [← e]; exact mB)), sans_at hsb, c66] at this
      cases this
    have owE : (PN.mk hh kk).own = hh.b :: ((hh.sl.blk.toList ++ hh.sg.blk.toList ++ hh.sr.blk.toList ++ hh.sk.blk.toList) ++ kk.flatMap PN.own) := by rw [PN.own_eq]; rfl
    have owE2 : (PN.mk g2 kk).own = h.b :: ((hh.sl.blk.toList ++ hh.sg.blk.toList ++ hh.sr.blk.toList ++ hh.sk.blk.toList) ++ kk.flatMap PN.own) := by rw [PN.own_eq, hg2]; rfl
    have heE2 : (PN.mk g2 kk).heads = (g2, kk.map PN.b) :: PN.headsL kk := by rw [PN.heads]
    have heE : (PN.mk hh kk).heads = (hh, kk.map PN.b) :: PN.headsL kk := by rw [PN.heads]
    have ptE : (PN.mk g2 kk).pt = (PN.mk hh kk).pt := by rw [PN.pt_eq, PN.pt_eq, hg2]; rfl
    have hnd2 := hc.nodup
    have sub2 : ∀ c ∈ (PN.mk g2 kk).own, c = h.b ∨ c ∈ (PN.mk hh kk).own := fun c hcm => by
      rw [owE2] at hcm
      rcases List.mem_cons.1 hcm with e | e
      · exact .inl e
      · exact .inr (by rw [owE]; exact List.mem_cons_of_mem _ e)
    have el85 : ∀ c o, u c = some o → c ≠ src → c ∉ (PN.mk h []).own → u85 c = some o := fun c o hc' hns hm => by
      rw [nown] at hm
      refine e85 c o (hc.else' c o (el66 c o hc' hm) (fun e => ?_) hns) fun e => hm (by rw [e]; exact mB)
      rcases hbl c e with e | e
      · exact hm (mR e)
      · rw [hc'] at e; cases e
    have hub85 : ub.le u85 := fun c o hc' => el85 c o (w.base c o hc') (fun e => by rw [e, ubs] at hc'; cases hc') fun hm => by rw [nown] at hm; rw [(hout c hm).1] at hc'; cases hc'
    have keepP : ∀ {x : PH × List Nat}, PhAt u74 x → (∀ c ∈ x.1.blks, c ≠ h.b) → (∀ r ∈ x.1.rows, r ∈ h.rows ++ [(⟨id, sv, v⟩ : Rw)]) → PhAt u85 x := fun hx hb hr => hx.keep (fun c o hcm ho => e85 c o ho (hb c hcm)) fun r hrm => ((hvN r (hr r hrm)).1).mono hub85
    refine hfin u85 _ ?dn (plug_bin fs (n' := .mk g2 kk) hbin (by rw [ptE]; exact hc.bin)) (hc.src.elim fun st hst => ⟨st, e85 _ _ hst fun e => srcO (by rw [e]; exact mB)⟩)
    refine (Way.down w (n' := .mk g2 kk) (by rw [show (PN.mk g2 kk).b = g2.b from rfl, hg2]; rfl) (fun x hx => ?_) ?_ (fun c o hc' hns hm => el85 c o hc' hns hm) (fun c hcm => ?_) (fun x hx y hy => ?_) (fun y hy g hg => .inl (hy g hg)) ?_ (by rw [ptE]; exact hc.ok) (by rw [ptE]; exact hc.shp) ?_)
    · rw [heE2] at hx
      rcases List.mem_cons.1 hx with rfl | hx
      · have hz : ∀ g, (hh.sl.blk = some g ∨ hh.sg.blk = some g ∨ hh.sr.blk = some g ∨ hh.sk.blk = some g) → g ≠ h.b := fun g hg e => hnB (by
          rw [owE, ← e]
          refine List.mem_cons_of_mem _ (List.mem_append_left _ ?_)
          rw [List.mem_append, List.mem_append, List.mem_append]
          rcases hg with e | e | e | e
          · exact .inl (.inl (.inl (by rw [e]; simp)))
          · exact .inl (.inl (.inr (by rw [e]; simp)))
          · exact .inl (.inr (by rw [e]; simp))
          · exact .inr (by rw [e]; simp))
        have hrow : ∀ r ∈ hh.rows, r ∈ h.rows ++ [(⟨id, sv, v⟩ : Rw)] := fun r hr => hc.rows (hh, kk.map PN.b) (by rw [heE]; exact List.mem_cons_self ..) r hr
        rw [hg2]
        refine ⟨?_, hone.lo.le fun c o hcb ho => e85 c o ho (hz c (.inl hcb)), hone.hi.le fun c o hcb ho => e85 c o ho (hz c (.inr (.inl hcb))), hone.rws.le fun c o hcb ho => e85 c o ho (hz c (.inr (.inr (.inl hcb)))), fun r hr => ((hvN r (hrow r hr)).1).mono hub85, Seg.else hone.kid fun c o hcb ho => e85 c o ho (hz c (.inr (.inr (.inr hcb))))⟩
        show u85 h.b = _
        rw [hu85, H.ins_same, hg2]
      · have hx' : x ∈ (PN.mk hh kk).heads := by rw [heE]; exact List.mem_cons_of_mem _ hx
        exact keepP (hc.one x hx') (fun c hcm e => hnB (by rw [← e]; exact List.mem_flatMap.2 ⟨x, hx', hcm⟩)) (hc.rows x hx')
    · rw [owE2, List.nodup_cons]
      rw [owE, List.nodup_cons] at hnd2
      exact ⟨fun hm => hnB (by rw [owE]; exact List.mem_cons_of_mem _ hm), hnd2.2⟩
    · rcases sub2 c hcm with rfl | hcm
      · exact ⟨.inl (by rw [nown]; exact mB), by rw [hu85, H.ins_same]; simp⟩
      · obtain ⟨q1, q2, q3⟩ := hc.out c hcm
        rw [ux1 q3] at q1
        refine ⟨?_, ?_⟩
        · by_cases e : s'.blk = some c
          · rcases hbl c e with e | e
            · exact .inl (by rw [nown]; exact mR e)
            · exact .inr ⟨e, q3⟩
          · rw [sans_at e] at q1
            cases hx : u c with
            | none => exact .inr ⟨rfl, q3⟩
            | some o =>
              left
              rw [nown]
              by_cases hm : c ∈ h.blks
              · exact hm
              · rw [el66 c o hx hm] at q1; cases q1
        · obtain ⟨o, ho⟩ := Option.ne_none_iff_exists'.1 q2
          rw [e85 c o ho (fun e => hnB (by rw [← e]; exact hcm))]; simp
    · rw [heE2] at hx
      rcases List.mem_cons.1 hx with rfl | hx
      · exact (hvN y (hc.rows (hh, kk.map PN.b) (by rw [heE]; exact List.mem_cons_self ..) y (by rw [hg2] at hy; exact hy))).2
      · exact (hvN y (hc.rows x (by rw [heE]; exact List.mem_cons_of_mem _ hx) y hy)).2
    · rw [ptE]
      refine hc.all.trans ?_
      rw [List.map_append, PN.pt_all, PN.heads, PN.headsL]
      simp only [List.flatMap_cons, List.flatMap_nil, List.append_nil]
      exact List.perm_append_singleton _ _
    · have := hc.size
      rw [heE] at this
      rw [heE2]
      rw [List.length_append] at this
      simp only [List.length_cons, List.length_nil] at this ⊢
      omega
  · -- it is a leaf still
    have hl := leaf_ok (id := id) (sv := sv) (s := s') (plug_sub fs w.ok) hin
    rw [← hg1] at hl
    have nown1 : (PN.mk g1 []).own = g1.blks := by unfold PN.own; rw [PN.heads, PN.headsL]; simp
    have nh1 : (PN.mk g1 []).heads = [(g1, [])] := by rw [PN.heads, PN.headsL]; rfl
    have mem1 : ∀ c ∈ g1.blks, c = h.b ∨ (h.sl.blk = some c ∨ h.sg.blk = some c ∨ h.sk.blk = some c) ∨ s'.blk = some c := fun c hc => by
      rw [hg1] at hc
      have hc := (blks_perm _).mem_iff.1 hc
      rcases List.mem_append.1 hc with hc | hc
      · exact .inr (.inr (by simpa using hc))
      · rcases List.mem_cons.1 hc with hc | hc
        · exact .inl hc
        · rw [List.mem_append, List.mem_append] at hc
          rcases hc with (hc | hc) | hc
          · exact .inr (.inl (.inl (by simpa using hc)))
          · exact .inr (.inl (.inr (.inl (by simpa using hc))))
          · exact .inr (.inl (.inr (.inr (by simpa using hc))))
    refine hfin u66 _ ?dn2 (plug_bin fs (n' := .mk g1 []) hbin (bin_of (.inl rfl) fun k hk => (by cases hk))) ⟨st0, el66 _ _ hst0 srcO⟩
    refine (Way.down w (n' := .mk g1 []) g1b (fun x hx => ?_) ?_ (fun c o hc _ hm => el66 c o hc (by rw [← nown]; exact hm)) (fun c hc => ?_) (fun x hx y hy => ?_) (fun y hy g hg => .inl (hy g hg)) hl.2 hl.1 ?_ (by rw [nh1]; show 1 ≤ _; have := (PN.mk h []).heads_pos; omega))
    · rw [nh1, List.mem_singleton] at hx
      subst hx
      have k1 : ∀ {s : Sl} {c : Nat} {o : Obj}, (h.sl.blk = some c ∨ h.sg.blk = some c ∨ h.sk.blk = some c) → u c = some o → u66 c = some o := fun {s c o} hc ho => e66 c o ho (hqo c hc).2.1 (hqo c hc).2.2
      refine ⟨by show u66 g1.b = _; rw [g1b]; exact c66, ?_, ?_, ?_, fun r hr => ?_, ?_⟩
      · rw [hg1]; exact hph.lo.le fun c o hc ho => k1 (s := h.sl) (.inl hc) ho
      · rw [hg1]; exact hph.hi.le fun c o hc ho => k1 (s := h.sl) (.inr (.inl hc)) ho
      · rw [hg1]; exact own66.own
      · rw [hg1] at hr; exact ((hvN r hr).1).mono hub66
      · rw [hg1]; exact Seg.else hph.kid fun c o hc ho => k1 (s := h.sl) (.inr (.inr hc)) ho
    · rw [nown1, hg1]
      refine blks_sr hnd _ fun g hg => (hbl g hg).imp (fun e => e) fun e hm => (hout g hm).2.1 e
    · rw [nown1] at hc
      rw [nown]
      rcases mem1 c hc with rfl | hc | hc
      · exact ⟨.inl mB, by rw [c66]; simp⟩
      · obtain ⟨q1, q2, q3⟩ := hqo c hc
        obtain ⟨o, ho⟩ := Option.ne_none_iff_exists'.1 (hout c q1).2.1
        exact ⟨.inl q1, by rw [e66 c o ho q2 q3]; simp⟩
      · exact ⟨(hbl c hc).imp mR (fun e => ⟨e, fun e2 => by rw [e2, hst0] at e; cases e⟩), own_known own66 hc⟩
    · rw [nh1, List.mem_singleton] at hx
      subst hx
      exact (hvN y (by rw [hg1] at hy; exact hy)).2
    · rw [PN.pt_eq]
      refine .mk ?_ fun k hk => (by cases hk)
      show g1.sh = 3
      rw [hg1]
      exact hsh

end Go.Proofs.YtbohcdjoglidhaaGreatDoor.Vp

/- VcVp8 -/
namespace Go.Proofs.YtbohcdjoglidhaaGreatDoor.Vp

/-- The row is gone, if it was there. -/
structure Gone (u0 u : H) (fp : Nat → Option Tg) (b : Nat) (T : Tr) (id : Int) (u' : H) (fp' : Nat → Option Tg) (T' : Tr) : Prop where
  is : In u0 u' fp' b T'
  turn : TurnG u fp u' fp'
  ok : TOk T'
  rows : ixRows T' = (ixRows T).filter fun x => x.1 != id
  dim : T'.dim = T.dim
  leaf : T'.leaf = T.leaf
  gas : T'.gas = T.gas
  no : id ∉ T'.w.map (·.1)
  few : T'.w.length < 512

theorem spec.Gone {u0 u : H} {fp : Nat → Option Tg} {b : Nat} {T : Tr} {id : Int} {K : Bool → Int → H → Prop} (h : In u0 u fp b T) (hT : TOk T) (hgas : T.gas ≤ 4000) (hfew : id ∉ T.w.map (·.1) → T.w.length < 512)
    (hK : ∀ bb u' fp' T', Gone u0 u fp b T id u' fp' T' → K bb 0 u') : C.vptree_Tree__Delete (some ⟨b, 0, none⟩) id u K := by
  refine spec.Delete h hT hgas (fun hno u1 hu1 => hK _ u1 fp T ⟨h.mono keep hu1, TurnG.mono hu1, hT, ?_, rfl, rfl, rfl, hno, hfew hno⟩) fun hin u1 fp1 T1 hr => hK _ u1 fp1 T1 ⟨hr.is, hr.turn, hr.ok, hr.rows, hr.dim, hr.leaf, hr.gas, ?_, ?_⟩
  · refine (List.filter_eq_self.2 fun x hx => ?_).symm
    have : x.1 ≠ id := fun e => hno (by rw [← keys_ix]; exact List.mem_map.2 ⟨x, hx, e⟩)
    simpa using this
  · rw [← keys_ix, hr.rows]
    intro hm
    obtain ⟨p, hp, e⟩ := List.mem_map.1 hm
    have := (List.mem_filter.1 hp).2
    simp [e] at this
  · have hs := hT.small
    have e1 : T1.w.length = (ixRows T1).length := by simp [ixRows]
    have e2 : T.w.length = (ixRows T).length := by simp [ixRows]
    rw [← keys_ix] at hin
    obtain ⟨p, hp, e⟩ := List.mem_map.1 hin
    have : ((ixRows T).filter fun p => p.1 != id).length < (ixRows T).length := List.length_filter_lt_length_iff_exists.2 ⟨p, hp, by simp [e]⟩
    rw [hr.rows] at e1
    omega

theorem _root_.Go.Proofs.YtbohcdjoglidhaaGreatDoor.PhAt.mono {u u' : H} {x : PH × List Nat} (h : PhAt u x) (hu : u.le u') : PhAt u' x := h.keep (fun c o _ ho => hu c o ho) fun r hr => (h.vec r hr).mono hu

theorem _root_.Go.Proofs.YtbohcdjoglidhaaGreatDoor.Way.mono {sh : Int} {ub u u' : H} {d : Int} {v : List Int} {O W : Nat → Prop} {n0 : PN} {fs : List Hol} {n : PN} (w : Way sh ub u d v O W n0 fs n) (hu : u.le u') : Way sh ub u' d v O W n0 fs n :=
  ⟨w.base.trans hu, fun x hx => (w.one x hx).mono hu, w.nodup, fun c hc => (fun z => ⟨z.1, fun e => z.2.1 (hu.none e), z.2.2⟩) (w.out c hc), w.known, w.vec, w.ok, w.ins, w.box, w.all, w.len, w.b⟩

theorem st_own {u : H} {n : Nat} {id : Int} {s : Sl} {f : H → Prop} (h : u n = some (.cells #[.int .i64 0, .slice none 0 0] 24 (0, 0))) (hf : f (u.ins n (.cells #[.int .i64 id, .slice s.a s.n s.c] 24 (0, 0)))) :
    H.St u (Addr.mk n 0 none) [.int .i64 id, .slice s.a s.n s.c] f := ⟨_, _, h, rfl, by simp, by simp [Value.oneCell'], hf⟩

theorem mem_sum : ∀ {l : List Nat} {x : Nat}, x ∈ l → x ≤ l.sum
  | y :: l, x, h => by
    rw [List.sum_cons]
    rcases List.mem_cons.1 h with rfl | h
    · omega
    · have := mem_sum h
      omega

theorem kid_lt {h : PH} {ks : List PN} {i : Nat} (hi : i < ks.length) : ks[i].heads.length < (PN.mk h ks).heads.length := by
  rw [PN.heads, PN.headsL_eq, List.length_cons, List.length_flatMap]
  have : ks[i].heads.length ≤ (ks.map fun k => k.heads.length).sum := mem_sum (List.mem_map.2 ⟨ks[i], List.getElem_mem hi, rfl⟩)
  omega

theorem spec.Put {u0 u : H} {fp : Nat → Option Tg} {b : Nat} {T : Tr} {id : Int} {t : Sl} {q : List Int} {K : Bool → Int → H → Prop} (h : In u0 u fp b T) (hT : TOk T) (hgas : T.gas ≤ 4000) (ht : Ints u t q) (hkeep : ∀ u1 fp1, u0.le u1 → TurnG u fp u1 fp1 → Ints u1 t q)
    (hbad : mayErr id q T.dim (decide (id ∈ (ixRows T).map (·.1))) (ixRows T).length ≠ 0 → K false (mayErr id q T.dim (decide (id ∈ (ixRows T).map (·.1))) (ixRows T).length) u)
    (hok : mayErr id q T.dim (decide (id ∈ (ixRows T).map (·.1))) (ixRows T).length = 0 → ∀ u' fp' T', PutRes u0 u fp b T id q u' fp' T' → K (decide (id ∉ (ixRows T).map (·.1))) 0 u') : C.vptree_Tree__Put (some ⟨b, 0, none⟩) id t u K := by
  apply vc.vptree_Tree__Put
  refine ⟨fun e => (by cases e), fun _ => ⟨_, rfl, _, H.cell?_of h.tr.cell 4, ?_⟩⟩
  obtain ⟨y, hy, hsome⟩ : ∃ y : Sl, (getL (entL T.w) id).getD (.slice none 0 0) = CT.slice.enc y ∧ (getL (entL T.w) id).isSome = decide (id ∈ (ixRows T).map (·.1)) := by
    rw [keys_ix]
    rcases getE T.w id with ⟨hg, hm⟩ | ⟨e, he, hid, hg⟩
    · exact ⟨⟨none, 0, 0⟩, by rw [hg]; rfl, by rw [hg, decide_eq_false hm]; rfl⟩
    · exact ⟨e.2.1, by rw [hg]; rfl, by rw [hg, decide_eq_true (List.mem_map.2 ⟨e, he, hid⟩)]; rfl⟩
  refine sem_get2 mapTy h.tr.map (ct := .slice) y hy ?_
  rw [hsome]
  refine ⟨_, rfl, _, rfl, _, H.cell?_of h.tr.cell 0, _, H.cell?_of h.tr.cell 4, sem_maplen mapTy h.tr.map ⟨H.le.refl u, spec.flat_May ht ?_⟩⟩
  rw [ent_len]
  refine ⟨fun hne => hbad hne, fun he => ?_⟩
  have hok := hok he
  obtain ⟨d1, d2, hvc, d4⟩ : 1 ≤ id ∧ id ≤ 1000000000 ∧ vcheck q T.dim = 0 ∧ (decide (id ∈ (ixRows T).map (·.1)) = false → ((ixRows T).length : Int) < 512) := by
    unfold mayErr at he
    split at he
    · cases he
    · rename_i h1
      split at he
      · rename_i h2; exact absurd he h2
      · rename_i h2
        split at he
        · cases he
        · rename_i h3
          refine ⟨by omega, by omega, by simpa using h2, fun e => ?_⟩
          by_cases h4 : ((ixRows T).length : Int) < 512
          · exact h4
          · exact absurd ⟨e, by omega⟩ h3
  obtain ⟨e1, e2, e3, e4⟩ := vcheck_ok hvc
  have hb : (!decide (decide (id ∈ (ixRows T).map (·.1)) = true)) = decide (id ∉ (ixRows T).map (·.1)) := by
    by_cases hin : id ∈ (ixRows T).map (·.1) <;> simp [hin]
  have hb' : ∀ z : H, K (decide (id ∉ (ixRows T).map (·.1))) 0 z → K (!decide (decide (id ∈ (ixRows T).map (·.1)) = true)) 0 z := fun z hz => by rw [hb]; exact hz
  refine spec.Gone h hT hgas (fun hno => ?_) fun _ u1 fp1 T1 hg => ?_
  · have := d4 (decide_eq_false (by rw [keys_ix]; exact hno))
    have e5 : T.w.length = (ixRows T).length := by simp [ixRows]
    omega
  have i1 := hg.is
  have ok1 := hg.ok
  have hi1 := hkeep u1 fp1 i1.le hg.turn
  intro K16 h16
  -- the row of its own, made in whatever order
  suffices go : ∀ (nb : Nat) (s16 : Sl) (u17 : H), u1 nb = none → s16.blk ≠ some nb → OwnF u1 u17 3 1 s16 (q.flatMap encI) → u17 nb = some (.cells #[.int .i64 id, .slice s16.a s16.n s16.c] 24 (0, 0)) → K16 ⟨nb, 0, none⟩ u17 by
    have hb63 : t.n ≤ 1099511627776 := by have := hi1.len; omega
    refine ⟨spec.slices_Clone___int_int_ hi1 hb63 fun s16 u17 ho16 _ => ⟨ho16.le, fun n hn => ⟨ho16.le.trans (H.le_ins _ hn), st_own (H.ins_same _ _ _) ?_⟩⟩, fun n hn => ⟨H.le_ins _ hn, spec.slices_Clone___int_int_ (hi1.mono (H.le_ins _ hn)) hb63 fun s16 u17 ho16 _ => ⟨(H.le_ins _ hn).trans ho16.le, st_own (ho16.le _ _ (H.ins_same _ _ _)) ?_⟩⟩⟩
    · rw [H.ins_ins]
      exact go n s16 _ (ho16.le.none hn) (fun e => own_known ho16 e hn) (ho16.mono (H.le_ins _ hn)) (H.ins_same _ _ _)
    · have hne : s16.blk ≠ some n := fun e => by have := ho16.fresh n e; rw [H.ins_same] at this; cases this
      have ho : OwnF u1 u17 3 1 s16 (q.flatMap encI) := ho16.weaken (H.le_ins _ hn)
      exact go n s16 _ hn hne ⟨ho.own.le fun c o hc hx => by rw [H.ins_other _ _ (fun e => hne (by rw [hc, e]))]; exact hx, fun c o hc => by rw [H.ins_other _ _ (fun e => by rw [e, hn] at hc; cases hc)]; exact ho.le c o hc, ho.fresh⟩ (H.ins_same _ _ _)
  intro nb s16 u17 hnb hsnb ho16 dnb
  refine h16 _ _ ?_
  have l17 := ho16.le
  have tr := (InG.mono keep i1 l17).tr
  refine ⟨_, rfl, _, H.cell?_of tr.cell 4, _, H.cell?_of dnb 0, s16, H.cell?_of dnb 1, sem_put mapTy tr.map (getL_none.2 (by unfold entL; rw [List.map_map]; exact hg.no)) fun om hmap => ?_⟩
  obtain ⟨u20, hu20⟩ : ∃ u20, u20 = u17.ins T1.m om := ⟨_, rfl⟩
  rw [← hu20] at hmap ⊢
  have m20 : u20 T1.m = some om := by rw [hu20]; exact H.ins_same _ _ _
  have e20 : ∀ c o, u17 c = some o → c ≠ T1.m → u20 c = some o := fun c o hc hne => by rw [hu20, H.ins_other _ _ hne]; exact hc
  have mb : ∀ {c}, fp1 c ≠ some .map → c ≠ T1.m := fun hc e => hc (by rw [e]; exact tr.mtag)
  have n20 : ∀ {c}, u20 c = none → u1 c = none ∧ s16.blk ≠ some c := fun {c} hc => by
    have hne : c ≠ T1.m := fun e => by rw [e, m20] at hc; cases hc
    have h17 : u17 c = none := by rw [hu20, H.ins_other _ _ hne] at hc; exact hc
    exact ⟨l17.none h17, fun e => own_known ho16 e h17⟩
  have smap : ∀ g, s16.blk = some g → u1 g = none ∧ g ≠ T1.m := fun g hg' => ⟨ho16.fresh g hg', fun e => by
    have := i1.known T1.m (by rw [tr.mtag]; simp)
    rw [← e] at this
    exact this (ho16.fresh g hg')⟩
  have hmap' : MapAt u20 T1.m (entL (T1.w ++ [(id, (s16, q))])) := by
    have : entL (T1.w ++ [(id, (s16, q))]) = entL T1.w ++ [(id, .slice s16.a s16.n s16.c)] := by simp [entL]
    rw [this]; exact hmap
  have sv20 : Ints u20 s16 q := Seg.else ho16.ints fun g o hg' ho => e20 g o ho (smap g hg').2
  have n1 : ∀ {c}, fp1 c ≠ none → c ≠ nb := fun hc e => i1.known _ hc (by rw [e]; exact hnb)
  have d20 : u20 nb = some (.cells #[.int .i64 id, .slice s16.a s16.n s16.c] 24 (0, 0)) := e20 _ _ dnb (n1 (c := T1.m) (by rw [tr.mtag]; simp)).symm
  obtain ⟨st, hst⟩ := tr.src
  have s20 : u20 T1.src = some (.cells #[.int .u64 st] 134 (0, 0)) := e20 _ _ hst (mb (by rw [tr.stag]; simp))
  have ssrc : s16.blk ≠ some T1.src := fun e => i1.known T1.src (by rw [tr.stag]; simp) (smap _ e).1
  have srcb : T1.src ≠ b := fun e => by have := tr.stag; rw [e, tr.btag] at this; cases this
  have srcm : T1.src ≠ T1.m := fun e => by have := tr.stag; rw [e, tr.mtag] at this; cases this
  have c20 : u20 b = some (.cells (treeC T1).toArray 108 (0, 0)) := e20 _ _ tr.cell (mb (by rw [tr.btag]; simp))
  have tl20 : u20.cell? ((Addr.mk b 0 none).add 1) = some (.int .i64 T1.leaf) := H.cell?_of c20 1
  have ts20 : u20.cell? ((Addr.mk b 0 none).add 2) = some (.pointer (some ⟨T1.src, 0, none⟩)) := H.cell?_of c20 2
  have hqd : (q.length : Int) = T1.dim := by rw [hg.dim]; exact e3
  -- what is left when all is in place
  have fin : ∀ u' r, PutFin u1 fp1 b T1 id s16 q u' r → K (!decide (decide (id ∈ (ixRows T).map (·.1)) = true)) 0 u' := fun u' r hf => by
    obtain ⟨fp', T', f1, f2, f3, f4, f5, f6, f7⟩ := hf.res i1 ok1 ⟨d1, d2⟩ ⟨hqd, e4⟩ hg.few
    refine hb' _ (hok u' fp' T' ⟨f1, hg.turn.trans f2, f3, by rw [← hg.rows]; exact f4, f5.trans hg.dim, f6.trans hg.leaf, by rw [← hg.gas]; exact f7⟩)
  have hrokn : ∀ l : List Rw, ((l.map Rw.pr).Perm ((id, q) :: rootAll T1) ∨ ∃ m : List Prw, ((l.map Rw.pr) ++ m).Perm ((id, q) :: rootAll T1)) → Rok l T1.dim := fun l hl => by
    obtain ⟨m, hm⟩ : ∃ m : List Prw, ((l.map Rw.pr) ++ m).Perm ((id, q) :: rootAll T1) := hl.elim (fun h => ⟨[], by rw [List.append_nil]; exact h⟩) fun h => h
    have hp2 : ((l.map Rw.pr) ++ m).Perm ((id, q) :: ixRows T1) := hm.trans (List.Perm.cons _ ok1.rows)
    have hnd : (((id, q) :: ixRows T1).map (·.1)).Nodup := by
      rw [List.map_cons, List.nodup_cons]
      exact ⟨by rw [keys_ix]; exact hg.no, i1.tr.wnodup⟩
    have hlen := hp2.length_eq
    have hfew := hg.few
    simp only [List.length_append, List.length_map, List.length_cons, ixRows] at hlen
    refine rok_pr ok1.dm (by omega) ?_ fun p hp => ?_
    · have := (hp2.map (·.1)).nodup_iff.2 hnd
      rw [List.map_append, List.nodup_append] at this
      rw [show l.map (·.id) = (l.map Rw.pr).map (·.1) by rw [List.map_map]; rfl]
      exact this.1
    · rcases List.mem_cons.1 (hp2.mem_iff.1 (List.mem_append_left _ hp)) with rfl | hp
      · exact ⟨d1, d2, hqd, e4⟩
      · obtain ⟨e, he', rfl⟩ := List.mem_map.1 hp
        exact ⟨(ok1.ids e he').1, (ok1.ids e he').2, ok1.vec e he'⟩
  cases hroot : T1.root with
  | none =>
    have hcr : u20.cell? ((Addr.mk b 0 none).add 3) = some (.pointer none) := by
      have hx : treeC T1 = [.int .i64 T1.dim, .int .i64 T1.leaf, .pointer (some ⟨T1.src, 0, none⟩), .pointer none, .map (some T1.m)] := by simp [treeC, hroot]
      rw [hx] at c20
      exact H.cell?_of c20 3
    have hall0 : rootAll T1 = [] := by unfold rootAll; rw [hroot]
    refine ⟨_, rfl, none, hcr, fun _ => ⟨_, H.cell?_of d20 0, s16, H.cell?_of d20 1, ?_⟩, fun hne => absurd rfl hne⟩
    refine sem_build (build_row1 id s16) fun g hgn => ?_
    obtain ⟨og, hog⟩ : ∃ og, og = (Obj.cells [Value.int .i64 id, .slice s16.a s16.n s16.c].toArray 24 (0, 0)) := ⟨_, rfl⟩
    rw [← hog]
    have l24 : u20.le (u20.ins g og) := H.le_ins _ hgn
    obtain ⟨ux, hux⟩ : ∃ ux, ux = H.no u20 T1.src := ⟨_, rfl⟩
    have lux : ux.le u20 := by rw [hux]; exact no_le _ _
    have ux1 : ∀ {c}, c ≠ T1.src → ux c = u20 c := fun hc => by rw [hux]; exact no_at hc
    have ho24 : OwnF ux (u20.ins g og) 24 2 ⟨some ⟨g, 0, none⟩, 1, 1⟩ (([⟨id, s16, q⟩] : List Rw).flatMap encR) := by
      rw [hog]
      exact (OwnF.make (H.le.refl u20) hgn (cells := [Value.int .i64 id, .slice s16.a s16.n s16.c].toArray) (n := 1) (by omega) rfl).weaken lux
    have cux : ux b = some (.cells (treeC T1).toArray 108 (0, 0)) := by rw [ux1 (Ne.symm srcb)]; exact c20
    have svx : Ints ux s16 q := Seg.else sv20 fun c o hc hx => by rw [ux1 (fun e => ssrc (by rw [hc, e]))]; exact hx
    refine spec.cut (ub := ux) (src := T1.src) (by have := ok1.lf; omega) (H.cell?_of cux 1) (H.cell?_of cux 2) (by rw [hux]; exact no_self _ _) ⟨st, l24 _ _ s20⟩ (fun e => by
      have : g = T1.src := by simpa [Sl.blk] using e
      rw [this, s20] at hgn; cases hgn) ho24 (fun r hr => by rw [List.mem_singleton.1 hr]; exact svx) (hrokn _ (.inl (by rw [hall0]; exact .refl _))) (fun e => by cases e) fun _ u26 n2 hc => ?_
    have gb : g ≠ b := fun e => by rw [e, c20] at hgn; cases hgn
    have k26 : ∀ c o, u20 c = some o → c ≠ T1.src → u26 c = some o := fun c o hc' hns => hc.else' c o (l24 c o hc') (fun e => by
      have : g = c := by simpa [Sl.blk] using e
      rw [this, hc'] at hgn; cases hgn) hns
    have c26 : u26 b = some (.cells #[.int .i64 T1.dim, .int .i64 T1.leaf, .pointer (some ⟨T1.src, 0, none⟩), .pointer none, .map (some T1.m)] 108 (0, 0)) := by
      have := k26 _ _ c20 (Ne.symm srcb)
      rw [show treeC T1 = [.int .i64 T1.dim, .int .i64 T1.leaf, .pointer (some ⟨T1.src, 0, none⟩), .pointer none, .map (some T1.m)] by simp [treeC, hroot]] at this
      exact this
    refine ⟨_, rfl, st_root c26 ?_⟩
    obtain ⟨u28, hu28⟩ : ∃ u28, u28 = u26.ins b (.cells #[.int .i64 T1.dim, .int .i64 T1.leaf, .pointer (some ⟨T1.src, 0, none⟩), .pointer (some ⟨n2.b, 0, none⟩), .map (some T1.m)] 108 (0, 0)) := ⟨_, rfl⟩
    rw [← hu28]
    have k28 : ∀ c o, u26 c = some o → c ≠ b → u28 c = some o := fun c o hc' hne => by rw [hu28, H.ins_other _ _ hne]; exact hc'
    have bown : b ∉ n2.own := fun e => by have := (hc.out b e).1; rw [cux] at this; cases this
    have bm : T1.m ≠ b := fun e => by
      have h1 := tr.mtag
      rw [e, tr.btag] at h1; cases h1
    have sb : ∀ g', s16.blk = some g' → g' ≠ b := fun g' hg' e => by
      have := i1.known b (by rw [tr.btag]; simp)
      rw [← e] at this
      exact this (smap g' hg').1
    have k12 : ∀ c o, u1 c = some o → c ≠ T1.m → c ≠ b → c ≠ T1.src → u28 c = some o := fun c o hc' h1 h2 h3 => k28 c o (k26 c o (e20 c o (l17 c o hc') h1) h3) h2
    have ss : ∀ {g'}, s16.blk = some g' → g' ≠ T1.src := fun hg' e => ssrc (by rw [hg', e])
    refine fin u28 n2 ⟨?_, hmap'.else fun o ho => k28 _ o (k26 _ o ho (Ne.symm srcm)) bm, hc.src.elim fun st' hst' => ⟨st', k28 _ _ hst' srcb⟩, Seg.else sv20 fun g' o hg' ho => k28 g' o (k26 g' o ho (ss hg')) (sb g' hg'), fun g' hg' => ⟨(smap g' hg').1, ?_⟩, fun c o hc' hf => ?_, fun c hc' hf => ?_, fun x hx => ?_, hc.nodup, fun c hc' => ?_, fun x hx r hr g' hg' => ?_, ?_, hc.ok, hc.shp, hc.bin, ?_⟩
    · rw [hu28, H.ins_same]; rfl
    · obtain ⟨o, ho⟩ := Option.ne_none_iff_exists'.1 (own_known ho16 hg')
      rw [k28 g' o (k26 g' o (e20 g' o ho (smap g' hg').2) (ss hg')) (sb g' hg')]; simp
    · refine k12 c o hc' (mb ?_) (fun e => ?_) fun e => by
        rw [e, tr.stag] at hf
        rcases hf with hf | hf <;> cases hf
      · rcases hf with hf | hf <;> rw [hf] <;> simp
      · rw [e, tr.btag] at hf
        rcases hf with hf | hf <;> cases hf
    · by_cases h1 : c = T1.m
      · rw [h1, k28 _ _ (k26 _ _ m20 (Ne.symm srcm)) bm]; simp
      · by_cases h2 : c = b
        · rw [h2, hu28, H.ins_same]; simp
        · by_cases h3 : c = T1.src
          · obtain ⟨st', hst'⟩ := hc.src
            rw [h3, k28 _ _ hst' srcb]; simp
          · obtain ⟨o, ho⟩ := Option.ne_none_iff_exists'.1 hc'
            rw [k12 c o ho h1 h2 h3]; simp
    · refine (hc.one x hx).keep (fun c o hcm ho => k28 c o ho fun e => bown (by rw [← e]; exact List.mem_flatMap.2 ⟨x, hx, hcm⟩)) fun r hr => ?_
      rw [List.mem_singleton.1 (hc.rows x hx r hr)]
      exact Seg.else sv20 fun g' o hg' ho => k28 g' o (k26 g' o ho (ss hg')) (sb g' hg')
    · obtain ⟨q1, q2, q3⟩ := hc.out c hc'
      rw [ux1 q3] at q1
      obtain ⟨o, ho⟩ := Option.ne_none_iff_exists'.1 q2
      exact ⟨.inr (n20 q1), by rw [k28 c o ho (fun e => bown (by rw [← e]; exact hc'))]; simp⟩
    · rw [List.mem_singleton.1 (hc.rows x hx r hr)] at hg'
      exact .inr hg'
    · rw [hall0]; exact hc.all
    · have := hc.size
      simp only [List.length_cons, List.length_nil] at this
      omega
  | some n0 =>
    obtain ⟨q1, q2, q3, q4⟩ := tr.one n0 hroot
    have hcr : u20.cell? ((Addr.mk b 0 none).add 3) = some (.pointer (some ⟨n0.b, 0, none⟩)) := by
      have hx : treeC T1 = [.int .i64 T1.dim, .int .i64 T1.leaf, .pointer (some ⟨T1.src, 0, none⟩), .pointer (some ⟨n0.b, 0, none⟩), .map (some T1.m)] := by simp [treeC, hroot]
      rw [hx] at c20
      exact H.cell?_of c20 3
    have hall0 : rootAll T1 = n0.pt.all := by unfold rootAll; rw [hroot]
    -- all but the parts
    obtain ⟨ub, hub⟩ : ∃ ub : H, ub = fun c => open Classical in if c ∈ n0.own ∨ c = T1.src then none else u20 c := ⟨_, rfl⟩
    have ub1 : ∀ {c}, c ∈ n0.own → ub c = none := fun hc => by rw [hub]; exact if_pos (.inl hc)
    have ubs : ub T1.src = none := by rw [hub]; exact if_pos (.inr rfl)
    have ub2 : ∀ {c}, c ∉ n0.own → c ≠ T1.src → ub c = u20 c := fun hc hs => by rw [hub]; exact if_neg (fun e => e.elim hc hs)
    have lub : ub.le u20 := fun c o' hc => by
      by_cases e : c ∈ n0.own
      · rw [ub1 e] at hc; cases hc
      · by_cases e2 : c = T1.src
        · rw [e2, ubs] at hc; cases hc
        · rw [ub2 e e2] at hc; exact hc
    have notown : ∀ {c}, fp1 c ≠ some .node → c ∉ n0.own := fun hc e => hc (q3 _ e)
    have sown : ∀ g, s16.blk = some g → g ∉ n0.own := fun g hg' e => i1.known g (by rw [q3 g e]; simp) (smap g hg').1
    have sns : ∀ {g}, s16.blk = some g → g ≠ T1.src := fun hg' e => ssrc (by rw [hg', e])
    have cb : ub b = some (.cells (treeC T1).toArray 108 (0, 0)) := by rw [ub2 (notown (by rw [tr.btag]; simp)) (Ne.symm srcb)]; exact c20
    have nbo : nb ∉ n0.own := fun e => n1 (by rw [q3 nb e]; simp) rfl
    have nbs : nb ≠ T1.src := fun e => n1 (c := T1.src) (by rw [tr.stag]; simp) e.symm
    have db : ub nb = some (.cells #[.int .i64 id, .slice s16.a s16.n s16.c] 24 (0, 0)) := by rw [ub2 nbo nbs]; exact d20
    have svb : Ints ub s16 q := Seg.else sv20 fun g o hg' ho => by rw [ub2 (sown g hg') (sns hg')]; exact ho
    have e120 : ∀ c o, u17 c = some o → fp1 c ≠ some .map → fp1 c ≠ some .node → fp1 c ≠ some .src → ub c = some o := fun c o hc h1 h2 h3 => by rw [ub2 (notown h2) (fun e => h3 (by rw [e]; exact tr.stag))]; exact e20 c o hc (mb h1)
    have hvecb : ∀ x ∈ n0.heads, ∀ r ∈ x.1.rows, Ints ub r.s r.v := fun x hx r hr => Seg.else ((q1 x hx).vec r hr) fun g o hg' ho => e120 g o ho (by rw [q4 x hx r hr g hg']; simp) (by rw [q4 x hx r hr g hg']; simp) (by rw [q4 x hx r hr g hg']; simp)
    have w0 : Way 3 ub u20 T1.dim q (fun c => c ≠ T1.src) (fun g => fp1 g = some .vec) n0 [] n0 := by
      refine Way.start lub (fun c hc e => hc (by rw [e]; exact ubs)) (fun x hx => (q1 x hx).keep (fun c o hc ho => e20 c o ho (mb ?_)) fun r hr => (hvecb x hx r hr).mono lub) q2 (fun c hc => ⟨ub1 hc, ?_, fun e => by have := q3 c hc; rw [e, tr.stag] at this; cases this⟩) (fun x hx r hr => ⟨hvecb x hx r hr, fun g hg' => q4 x hx r hr g hg'⟩) (ok1.ok n0 hroot) (ok1.shp n0 hroot)
      · rw [q3 c (List.mem_flatMap.2 ⟨x, hx, hc⟩)]; simp
      · have hk := i1.known c (by rw [q3 c hc]; simp)
        obtain ⟨o, ho⟩ := Option.ne_none_iff_exists'.1 hk
        rw [e20 c o (l17 c o ho) (mb (by rw [q3 c hc]; simp))]; simp
    refine ⟨_, rfl, _, hcr, fun e => (by cases e), fun _ => ⟨_, rfl, _, hcr, ?_⟩⟩
    let At : Option Addr → H → Nat → Prop := fun p w f => ∃ fs n, p = some ⟨n.b, 0, none⟩ ∧ Way 3 ub w T1.dim q (fun c => c ≠ T1.src) (fun g => fp1 g = some .vec) n0 fs n ∧ SrcAt w T1.src ∧ PtBin (plug fs n).pt ∧ n.heads.length = f
    refine ⟨fun p w => ∃ f, At p w f, fun p w => least (At p w), ⟨_, [], n0, rfl, w0, ⟨st, s20⟩, ok1.bin n0 hroot, rfl⟩, fun p33 u34 hI => ?_⟩
    have hfl := least_is hI
    generalize hfe : least (At p33 u34) = f at hfl
    obtain ⟨fs, n, hp, w, ⟨st1, hs1⟩, hbin, hnf⟩ := hfl
    obtain ⟨nh, ks⟩ := n
    obtain rfl : p33 = some ⟨nh.b, 0, none⟩ := hp
    obtain ⟨hph, hnd, hout, hvec, hsh⟩ := w.head
    have hpk := plug_sub fs w.ok
    obtain ⟨dm1, dm2, _, bl1, bl2, bl3⟩ := ball_of hsh hpk
    have cnb : ∀ {z : H}, ub.le z → z.cell? ((Addr.mk nb 0 none).add 1) = some (.slice s16.a s16.n s16.c) := fun hz => H.cell?_of (hz _ _ db) 1
    refine ⟨s16, cnb w.base, spec.grow svb w.base hph hnd (fun c hc => (hout c hc).1) (fun r hr => (hvec r hr).1) bl1 e4 (by omega) (by omega) bl3 fun _ _ u38 hph38 hel hkn => ?_⟩
    obtain ⟨gok, gin⟩ := grow_ok (ks := ks) hsh hpk e4 hqd
    have w38 : Way 3 ub u38 T1.dim q (fun c => c ≠ T1.src) (fun g => fp1 g = some .vec) n0 fs (.mk (growH nh q) ks) := w.turn rfl rfl rfl hph38 hel hkn gok
    have s38 : SrcAt u38 T1.src := ⟨st1, hel _ _ hs1 fun hm => (hout _ hm).2.2 rfl⟩
    have bin38 : PtBin (plug fs (.mk (growH nh q) ks)).pt := plug_bin fs hbin (by
      obtain ⟨b1, b2⟩ := bin_node (bin_sub fs hbin)
      exact bin_of b1 b2)
    have c38 : u38 nh.b = some (.cells (partC (growH nh q)).toArray 132 (0, 0)) := hph38.cell
    have ck : ∀ {z : H}, u38.le z → z.cell? ((Addr.mk nh.b 0 none).add 7) = some (.slice nh.sk.a nh.sk.n nh.sk.c) := fun hz => H.cell?_of (hz _ _ c38) 7
    have hseg : Seg u38 nh.sk 1 ((ks.map PN.b).map fun n => .pointer (some ⟨n, 0, none⟩)) := hph38.kid
    have hskn : nh.sk.n = ks.length := by have := hseg.len; simpa using this.symm
    refine ⟨_, rfl, nh.sk, ck (H.le.refl _), fun h0 => ?_, fun h0 => ?_⟩
    · -- a leaf
      obtain rfl : ks = [] := List.eq_nil_of_length_eq_zero (by omega)
      refine ⟨_, rfl, nh.sr, H.cell?_of c38 6, _, H.cell?_of (w38.base _ _ db) 0, s16, cnb w38.base, ?_⟩
      refine spec.leaf (h := growH nh q) w38 (by have := ok1.lf; omega) (H.cell?_of cb 1) (H.cell?_of cb 2) s38 bin38 svb (hrokn _ (.inr ?_)) gin fun u' r hd hbn hsrc => fin u' r ?_
      · refine ⟨(ctxH fs nh.b).flatMap fun x => x.1.rows.map Rw.pr, ?_⟩
        have e5 := (plug_all fs (.mk nh [])).symm.trans w.all
        rw [hall0]
        have e6 : (PN.mk nh []).pt.all = nh.rows.map Rw.pr := by rw [PN.pt_all, PN.heads, PN.headsL]; simp
        rw [e6] at e5
        rw [List.map_append]
        refine (List.Perm.append_right _ (List.perm_append_singleton _ _)).trans ?_
        exact List.Perm.cons _ e5
      · have rb : treeC { T1 with root := some r } = treeC T1 := by simp [treeC, hroot, hd.b]
        refine ⟨by rw [rb]; exact hd.le _ _ cb, ?_, hsrc, svb.mono hd.le, fun g hg' => ⟨(smap g hg').1, ?_⟩, fun c o hc hf => ?_, fun c hc hf => ?_, hd.one, hd.nodup, fun c hc => ⟨?_, (hd.own c hc).2⟩, fun x hx y hy g hg' => hd.rws x hx y hy g hg', by rw [hall0]; exact hd.all, hd.ok, hd.shp, hbn, ?_⟩
        · exact hmap'.else fun o ho => hd.le _ _ (by rw [ub2 (notown (by rw [tr.mtag]; simp)) (Ne.symm srcm)]; exact ho)
        · obtain ⟨o, ho⟩ := Option.ne_none_iff_exists'.1 (own_known ho16 hg')
          rw [hd.le g o (by rw [ub2 (sown g hg') (sns hg')]; exact e20 g o ho (smap g hg').2)]; simp
        · exact hd.le c o (e120 c o (l17 c o hc) (by rcases hf with hf | hf <;> rw [hf] <;> simp) (by rcases hf with hf | hf <;> rw [hf] <;> simp) (by rcases hf with hf | hf <;> rw [hf] <;> simp))
        · by_cases h1 : c = T1.m
          · rw [h1, hd.le _ _ (by rw [ub2 (notown (by rw [tr.mtag]; simp)) (Ne.symm srcm)]; exact m20)]; simp
          · by_cases h2 : c = T1.src
            · obtain ⟨st', hst'⟩ := hsrc
              rw [h2, hst']; simp
            · obtain ⟨o, ho⟩ := Option.ne_none_iff_exists'.1 hc
              rw [hd.le c o (by rw [ub2 (notown hf) h2]; exact e20 c o (l17 c o ho) h1)]; simp
        · obtain ⟨h1, h2⟩ := (hd.own c hc).1
          by_cases hm : c ∈ n0.own
          · exact .inl (q3 c hm)
          · rw [ub2 hm h2] at h1
            exact .inr (n20 h1)
        · have h1 := hd.size
          have h2 := ok1.size n0 hroot
          omega
    · -- a kid
      have hkl : ks.length = 2 := (bin_node (bin_sub fs hbin)).1.resolve_left fun e => h0 (by omega)
      have kid : ∀ (i : Nat) (hi : i < ks.length), PhAt u38 (ks[i].h, ks[i].kids.map PN.b) ∧ vok ks[i].h.lo ∧ (ks[i].h.lo.length : Int) = T1.dim := fun i hi => by
        have hmem : (ks[i].h, ks[i].kids.map PN.b) ∈ (PN.mk (growH nh q) ks).heads ++ ctxH fs (PN.mk (growH nh q) ks).b := by
          rw [PN.heads, PN.headsL_eq]
          refine List.mem_append_left _ (List.mem_cons_of_mem _ (List.mem_flatMap.2 ⟨ks[i], List.getElem_mem hi, ?_⟩))
          rw [PN.heads_eq]
          exact List.mem_cons_self ..
        have h3 := gok.kids ks[i].pt (by rw [PN.pt_eq]; exact List.mem_map_of_mem (List.getElem_mem hi))
        have hk : ks[i] = .mk ks[i].h ks[i].kids := by cases ks[i]; rfl
        rw [hk] at h3
        obtain ⟨_, _, _, z1, z2, _⟩ := ball_of (show ks[i].h.sh = 3 from w38.box _ hmem) h3
        exact ⟨w38.one _ hmem, z1, z2⟩
      obtain ⟨a0, ha0, hc0⟩ := ptr_at hseg (i := 0) (by simp; omega)
      obtain ⟨a1, ha1, hc1⟩ := ptr_at hseg (i := 1) (by simp; omega)
      obtain rfl : a1 = a0 := by rw [ha0] at ha1; exact (Option.some.inj ha1).symm
      rw [List.getElem_map] at hc0 hc1
      have hc0' : u38.cell? (Addr.add a1 0) = some (.pointer (some ⟨(ks[0]'(by omega)).b, 0, none⟩)) := by simpa using hc0
      have hc1' : u38.cell? (Addr.add a1 1) = some (.pointer (some ⟨(ks[1]'(by omega)).b, 0, none⟩)) := by simpa using hc1
      have klo : ∀ (i : Nat) (hi : i < ks.length) {z : H}, u38.le z → z.cell? ((Addr.mk ks[i].b 0 none).add 1) = some (.slice ks[i].h.sl.a ks[i].h.sl.n ks[i].h.sl.c) := fun i hi z hz => by
        have kc : u38 ks[i].b = some (.cells (partC ks[i].h).toArray 132 (0, 0)) := (kid i hi).1.cell
        exact H.cell?_of (hz _ _ kc) 1
      have dist : ∀ (i : Nat) (hi : i < ks.length) {z : H} {Q : Int → Int → Int → H → Prop}, u38.le z → (∀ x y, U64 x → U64 y → Q x y 0 z) → C.vec_Dist ks[i].h.sl s16 z Q := fun i hi z Q hz hQ => by
        obtain ⟨k1, k2, k3⟩ := kid i hi
        exact spec.vec_Dist (k1.lo.f.ints.mono hz) (svb.mono (w38.base.trans hz)) k2 (by show 1 ≤ ks[i].h.lo.length; omega) e4 (by show ks[i].h.lo.length = q.length; omega) fun x y hx hy _ => hQ x y hx hy
      -- on, into a kid
      have on : ∀ (i : Nat) (hi : i < ks.length) (z : H), u38.le z → (∃ f, At (some ⟨ks[i].b, 0, none⟩) z f) ∧ least (At (some ⟨ks[i].b, 0, none⟩) z) < least (At (some ⟨nh.b, 0, none⟩) u34) := fun i hi z hz => by
        have hks : ks = ks.take i ++ ks[i] :: ks.drop (i + 1) := by rw [← List.drop_eq_getElem_cons hi, List.take_append_drop]
        have wz := w38.mono hz
        have hw : Way 3 ub z T1.dim q (fun c => c ≠ T1.src) (fun g => fp1 g = some .vec) n0 (⟨growH nh q, ks.take i, ks.drop (i + 1)⟩ :: fs) ks[i] := by
          refine Way.kid (by rw [← hks]; exact wz) ?_
          rw [PN.pt_eq] at gin
          exact gin
        have hb2 : PtBin (plug (⟨growH nh q, ks.take i, ks.drop (i + 1)⟩ :: fs) ks[i]).pt := by
          show PtBin (plug fs (.mk (growH nh q) (ks.take i ++ ks[i] :: ks.drop (i + 1)))).pt
          rw [← hks]; exact bin38
        have hlt := kid_lt (h := nh) hi
        have hat : At (some ⟨ks[i].b, 0, none⟩) z ks[i].heads.length := ⟨_, _, rfl, hw, s38.elim fun a b => ⟨a, hz _ _ b⟩, hb2, rfl⟩
        refine ⟨⟨_, hat⟩, ?_⟩
        have := least_le hat
        rw [hfe]
        omega
      intro K75 h75
      have two : ∀ (na : Nat) (x y : Int) (z : H), U64 y → u38.le z → z na = some (.cells [Value.int .u64 x, .int .u64 y].toArray 61 (0, 0)) → K75 ⟨na, 0, none⟩ z := by
        intro na x y z hy hz dna
        refine h75 _ _ ?_
        intro K78 h78
        have cmp : ∀ (nc : Nat) (x' y' : Int) (z' : H), U64 y' → z.le z' → z' nc = some (.cells [Value.int .u64 x', .int .u64 y'].toArray 61 (0, 0)) → K78 ⟨nc, 0, none⟩ z' := by
          intro nc x' y' z' hy' hz' dnc
          have h38 := hz.trans hz'
          refine h78 _ _ ⟨_, H.cell?_of (hz' _ _ dna) 0, _, H.cell?_of (hz' _ _ dna) 1, _, H.cell?_of dnc 0, _, H.cell?_of dnc 1, spec.wide_Cmp hy hy' ⟨fun _ => ?_, fun _ => ?_⟩⟩
          · exact ⟨_, rfl, nh.sk, ck h38, a1, ha0, ⟨by omega, by omega⟩, _, H.le.cell h38 hc0', on 0 (by omega) z' h38⟩
          · exact ⟨_, rfl, nh.sk, ck h38, a1, ha0, ⟨by omega, by omega⟩, _, H.le.cell h38 hc1', on 1 (by omega) z' h38⟩
        refine ⟨_, rfl, nh.sk, ck hz, a1, ha0, ⟨by omega, by omega⟩, _, H.le.cell hz hc1', _, rfl, _, klo 1 (by omega) hz, s16, cnb (w38.base.trans hz), ?_, fun n hn => ⟨H.le_ins _ hn, ?_⟩⟩
        · exact dist 1 (by omega) hz fun x' y' _ hy' n hn => ⟨H.le_ins _ hn, st_new (zs := [.int .u64 0, .int .u64 0]) rfl (by simp [Value.oneCell']) (cmp n x' y' _ hy' (H.le_ins _ hn) (H.ins_same _ _ _))⟩
        · exact dist 1 (by omega) (hz.trans (H.le_ins _ hn)) fun x' y' _ hy' => st_new (zs := [.int .u64 0, .int .u64 0]) rfl (by simp [Value.oneCell']) (cmp n x' y' _ hy' (H.le_ins _ hn) (H.ins_same _ _ _))
      refine ⟨_, rfl, nh.sk, ck (H.le.refl _), a1, ha0, ⟨by omega, by omega⟩, _, hc0', _, rfl, _, klo 0 (by omega) (H.le.refl _), s16, cnb w38.base, ?_, fun n hn => ⟨H.le_ins _ hn, ?_⟩⟩
      · exact dist 0 (by omega) (H.le.refl _) fun x' y' _ hy' n hn => ⟨H.le_ins _ hn, st_new (zs := [.int .u64 0, .int .u64 0]) rfl (by simp [Value.oneCell']) (two n x' y' _ hy' (H.le_ins _ hn) (H.ins_same _ _ _))⟩
      · exact dist 0 (by omega) (H.le_ins _ hn) fun x' y' _ hy' => st_new (zs := [.int .u64 0, .int .u64 0]) rfl (by simp [Value.oneCell']) (two n x' y' _ hy' (H.le_ins _ hn) (H.ins_same _ _ _))

end Go.Proofs.YtbohcdjoglidhaaGreatDoor.Vp

/- VcLawF -/
namespace Go.Proofs.YtbohcdjoglidhaaGreatDoor

/-- The regions of a search of all rows. -/
def restOf (a b c : Sl) (rest : List Rw) : List Rgn := if rest = [] then [] else [⟨2, a, b, 0, c, boxLo rest, boxHi rest, sortI (rest.map (·.id))⟩]

theorem AnsAt.own {u0 u : H} {sh ss sr : Sl} {hits : List Hit} {seen : List Int} {rest : List Rw} (h : AnsAt u0 u sh ss sr hits seen rest) : ∃ a b c : Sl, AnsO u0 u sh ss sr hits seen (restOf a b c rest) := by
  rcases h.r with ⟨he, rfl⟩ | ⟨hne, _, a, b, c, h1, h2, h3, h4, n1, n2, n3, f1, f2⟩
  · refine ⟨⟨none, 0, 0⟩, ⟨none, 0, 0⟩, ⟨none, 0, 0⟩, ?_⟩
    rw [restOf, if_pos he]
    refine ⟨h.h, h.s, OwnF.nil h.h.le _ _, fun r hr => (by cases hr), ?_⟩
    simp only [ansS, List.flatMap_nil]
    refine List.pairwise_cons.2 ⟨fun t ht => ?_, List.pairwise_cons.2 ⟨fun t ht => ?_, List.pairwise_singleton _ _⟩⟩
    · rcases List.mem_cons.1 ht with rfl | ht
      · exact h.hs
      · obtain rfl : t = _ := by simpa using ht
        intro g _ hg; simp [Sl.blk] at hg
    · obtain rfl : t = _ := by simpa using ht
      intro g _ hg; simp [Sl.blk] at hg
  · refine ⟨a, b, c, ?_⟩
    rw [restOf, if_neg hne]
    have e : ([⟨2, a, b, 0, c, boxLo rest, boxHi rest, sortI (rest.map (·.id))⟩] : List Rgn).flatMap encG = [.int .i64 2, .slice a.a a.n a.c, .slice b.a b.n b.c, .int .u64 0, .int .u64 0, .slice c.a c.n c.c] := by
      simp [encG, hiW0, loW0]
    refine ⟨h.h, h.s, by rw [e]; exact h1, fun r hr => ?_, ?_⟩
    · obtain rfl : r = _ := by simpa using hr
      exact ⟨h2, h3, h4⟩
    · have far1 : ∀ x ∈ [a, b, c], Far sh x ∧ Far ss x ∧ Far sr x := fun x hx => ⟨fun g h1' h2' => (f1 x hx g h2').1 h1', fun g h1' h2' => (f1 x hx g h2').2.1 h1', fun g h1' h2' => (f1 x hx g h2').2.2 h1'⟩
      have ne : ∀ {x y : Sl}, x.blk ≠ y.blk → Far x y := fun hn g hx hy => hn (by rw [hx, hy])
      simp only [ansS, List.flatMap_cons, List.flatMap_nil, List.append_nil, Rgn.sls]
      refine List.pairwise_cons.2 ⟨fun t ht => ?_, List.pairwise_cons.2 ⟨fun t ht => ?_, List.pairwise_cons.2 ⟨fun t ht => (far1 t ht).2.2, List.pairwise_cons.2 ⟨fun t ht => ?_, List.pairwise_cons.2 ⟨fun t ht => ?_, List.pairwise_singleton _ _⟩⟩⟩⟩⟩
      · rcases List.mem_cons.1 ht with rfl | ht
        · exact h.hs
        · rcases List.mem_cons.1 ht with rfl | ht
          · exact fun g hg hg2 => (f2 g hg2).1 hg
          · exact (far1 t ht).1
      · rcases List.mem_cons.1 ht with rfl | ht
        · exact fun g hg hg2 => (f2 g hg2).2 hg
        · exact (far1 t ht).2.1
      · rcases List.mem_cons.1 ht with rfl | ht
        · exact ne n1
        · obtain rfl : t = c := by simpa using ht
          exact ne n2
      · obtain rfl : t = c := by simpa using ht
        exact ne n3

theorem AnsR.nil (u : H) : AnsR u ⟨none, 0, 0⟩ ⟨none, 0, 0⟩ ⟨none, 0, 0⟩ [] [] [] :=
  ⟨(OwnF.nil (H.le.refl u) 0 3).own.seg, Ints.nil u, (OwnF.nil (H.le.refl u) 0 6).own.seg, fun r hr => by cases hr⟩

end Go.Proofs.YtbohcdjoglidhaaGreatDoor

/- VcIxBk -/
namespace Go.Proofs.YtbohcdjoglidhaaGreatDoor

theorem vmPut : methB Tryz.prog 76 "Put" 206 true = true := by kernel_rfl
theorem vmDelete : methB Tryz.prog 76 "Delete" 204 true = true := by kernel_rfl
theorem vmLen : methB Tryz.prog 76 "Len" 205 true = true := by kernel_rfl
theorem vmSearch : methB Tryz.prog 76 "Search" 208 true = true := by kernel_rfl
theorem undVp : Tryz.prog.underlying 76 = some (.pointer 108) := by kernel_rfl
theorem vhPut : hasBody Tryz.prog 206 = true := by kernel_rfl
theorem vhDelete : hasBody Tryz.prog 204 = true := by kernel_rfl
theorem vhLen : hasBody Tryz.prog 205 = true := by kernel_rfl
theorem vhSearch : hasBody Tryz.prog 208 = true := by kernel_rfl

/-- A method of the tree by its interface. -/
theorem meth {name : String} {f : FuncId} (hm : methB Tryz.prog 76 name f true = true) (p : Option Addr) (w : World) : (method (Tryz.prog.types.size + Made.depth) 76 (.pointer p) name).run Tryz.prog w = .ok (f, .pointer p) w := by
  obtain ⟨i, m, h1, h2, h3, h4⟩ := methB_spec hm
  obtain ⟨k', hk'⟩ := fuelOk
  rw [hk']
  exact run_method_ptr h1 h2 h3 h4 undVp

abbrev Pr := Int × List Int

structure Tr where
  vt : Nat
  X : Vp.Tr

def Tr.dim (X : Tr) : Int := X.X.dim
def Tr.links (X : Tr) : Int := X.X.leaf
def ixRows (X : Tr) : List Pr := Vp.ixRows X.X
noncomputable def ixH (X : Tr) (q : List Int) (k bud : Int) : List Hit := Vp.ixH X.X q k bud
noncomputable def ixS (X : Tr) (q : List Int) (k bud : Int) : List Int := Vp.ixS X.X q k bud
noncomputable def ixR (X : Tr) (q : List Int) (k bud : Int) : List (Int × Int × List Int × List Int × List Int) := Vp.ixR X.X q k bud
abbrev ixErr (l : List Rw) (dim A _B : Int) : Int := Vp.ixErr l dim A
def ixGas (X : Tr) : Nat := X.X.gas
def TabU (_ : H) : Prop := True
theorem TabU.mono {u u' : H} (_ : TabU u) (_ : u.le u') : TabU u' := trivial

def bkO (vt : Nat) : Obj := .cells #[.int .i64 3, .int .i64 2, .int .i64 0, .int .i64 0, .iface 76 (.pointer (some ⟨vt, 0, none⟩))] 54 (0, 0)

structure Ix (u0 u : H) (D : Nat → Prop) (b : Nat) (X : Tr) : Prop where
  ex : ∃ fp, (∀ c, D c ↔ c = b ∨ fp c ≠ none) ∧ fp b = none ∧ u0 b = none ∧ u b = some (bkO X.vt) ∧ Vp.In u0 u fp X.vt X.X ∧ Vp.TOk X.X

theorem Ix.base {u0 u : H} {D : Nat → Prop} {b : Nat} {X : Tr} (h : Ix u0 u D b X) : u0.le u ∧ (∀ c, D c → u0 c = none) ∧ ∀ c, D c → u c ≠ none := by
  obtain ⟨fp, h1, _, h3, h4, h5, _⟩ := h.ex
  refine ⟨h5.le, fun c hc => ?_, fun c hc => ?_⟩
  · rcases (h1 c).1 hc with rfl | hc
    · exact h3
    · exact h5.out c hc
  · rcases (h1 c).1 hc with rfl | hc
    · rw [h4]; simp
    · exact h5.known c hc

theorem Ix.mono {u0 u u' : H} {D : Nat → Prop} {b : Nat} {X : Tr} (h : Ix u0 u D b X) (hu : u.le u') : Ix u0 u' D b X := by
  obtain ⟨fp, h1, h2, h3, h4, h5, h6⟩ := h.ex
  exact ⟨fp, h1, h2, h3, hu _ _ h4, InG.mono Vp.keep h5 hu, h6⟩

/-- What a call on the tree leaves. -/
theorem Ix.turn {u0 u u' : H} {D : Nat → Prop} {b : Nat} {X : Tr} {T' : Vp.Tr} {fp fp' : Nat → Option Vp.Tg} (h1 : ∀ c, D c ↔ c = b ∨ fp c ≠ none) (h2 : fp b = none) (h3 : u0 b = none) (h4 : u b = some (bkO X.vt)) (is : Vp.In u0 u' fp' X.vt T') (ok : Vp.TOk T') (t : TurnG u fp u' fp') :
    ∃ D', Ix u0 u' D' b ⟨X.vt, T'⟩ ∧ IxTurn u D u' D' := by
  have hb : fp' b = none := t.off h4 h2
  refine ⟨fun c => c = b ∨ fp' c ≠ none, ⟨fp', fun _ => Iff.rfl, hb, h3, t.keep _ _ h4 h2, is, ok⟩, fun c o hc hd => t.keep c o hc ?_, fun c hc => ?_⟩
  · cases e : fp c with
    | none => rfl
    | some x => exact absurd ((h1 c).2 (.inr (by rw [e]; simp))) hd
  · rcases hc with rfl | hc
    · exact .inl ((h1 _).2 (.inl rfl))
    · exact (t.grow c hc).imp (fun e => (h1 c).2 (.inr e)) fun e => e

theorem spec.ix_Len {u0 u : H} {D : Nat → Prop} {b : Nat} {X : Tr} {K : Int → H → Prop} (h : Ix u0 u D b X) (hK : K (ixRows X).length u) : C.backend_Backend__Len (some ⟨b, 0, none⟩) u K := by
  obtain ⟨fp, h1, h2, h3, h4, h5, h6⟩ := h.ex
  apply vc.backend_Backend__Len
  exact ⟨fun e => (by cases e), fun _ => ⟨_, rfl, _, H.cell?_of h4 4, _, _, _, _, rfl, fun w _ => meth vmLen _ w, bodyOf vhLen, Vp.spec.Len h5 hK⟩⟩

theorem spec.ix_Put {u0 u : H} {D : Nat → Prop} {b : Nat} {X : Tr} {id : Int} {t : Sl} {q : List Int} {K : Bool → Int → H → Prop} (h : Ix u0 u D b X) (hgas : ixGas X ≤ 2700) (_ : TabU u0) (ht : Ints u t q) (hts : ∀ g, t.blk = some g → ¬ D g)
    (hbad : mayErr id q X.dim (decide (id ∈ (ixRows X).map (·.1))) (ixRows X).length ≠ 0 → K false (mayErr id q X.dim (decide (id ∈ (ixRows X).map (·.1))) (ixRows X).length) u)
    (hok : mayErr id q X.dim (decide (id ∈ (ixRows X).map (·.1))) (ixRows X).length = 0 → ∀ u' D' X', Ix u0 u' D' b X' → IxTurn u D u' D' → (ixRows X').Perm ((id, q) :: (ixRows X).filter fun x => x.1 != id) → X'.dim = X.dim → X'.links = X.links → ixGas X' ≤ ixGas X + 1 → K (decide (id ∉ (ixRows X).map (·.1))) 0 u') :
    C.backend_Backend__Put (some ⟨b, 0, none⟩) id t u K := by
  obtain ⟨fp, h1, h2, h3, h4, h5, h6⟩ := h.ex
  apply vc.backend_Backend__Put
  refine ⟨fun e => (by cases e), fun _ => ⟨_, rfl, _, H.cell?_of h4 4, _, _, _, _, rfl, fun w _ => meth vmPut _ w, bodyOf vhPut, ?_⟩⟩
  refine Vp.spec.Put h5 h6 (Nat.le_trans hgas (by decide)) ht (fun u1 fp1 _ ht1 => Seg.else ht fun g o hg ho => ht1.keep g o ho ?_) hbad fun he u' fp' T' hr => ?_
  · cases e : fp g with
    | none => rfl
    | some x => exact absurd ((h1 g).2 (.inr (by rw [e]; simp))) (hts g hg)
  · obtain ⟨D', i1, i2⟩ := Ix.turn h1 h2 h3 h4 hr.is hr.ok hr.turn
    exact hok he u' D' ⟨X.vt, T'⟩ i1 i2 hr.rows hr.dim hr.leaf hr.gas

theorem spec.ix_Delete {u0 u : H} {D : Nat → Prop} {b : Nat} {X : Tr} {id : Int} {K : Bool → Int → H → Prop} (h : Ix u0 u D b X) (hgas : ixGas X ≤ 2700) (hno : id ∉ (ixRows X).map (·.1) → ∀ u', u.le u' → K false 0 u')
    (hyes : id ∈ (ixRows X).map (·.1) → ∀ u' D' X', Ix u0 u' D' b X' → IxTurn u D u' D' → ixRows X' = (ixRows X).filter (fun x => x.1 != id) → X'.dim = X.dim → X'.links = X.links → ixGas X' ≤ ixGas X → K true 0 u') : C.backend_Backend__Delete (some ⟨b, 0, none⟩) id u K := by
  obtain ⟨fp, h1, h2, h3, h4, h5, h6⟩ := h.ex
  have hw : id ∈ X.X.w.map (·.1) ↔ id ∈ (ixRows X).map (·.1) := by rw [show ixRows X = Vp.ixRows X.X from rfl, Vp.keys_ix]
  apply vc.backend_Backend__Delete
  refine ⟨fun e => (by cases e), fun _ => ⟨_, rfl, _, H.cell?_of h4 4, _, _, _, _, rfl, fun w _ => meth vmDelete _ w, bodyOf vhDelete, ?_⟩⟩
  refine Vp.spec.Delete h5 h6 (Nat.le_trans hgas (by decide)) (fun hn => hno fun hm => hn (hw.2 hm)) fun hn u' fp' T' hr => ?_
  obtain ⟨D', i1, i2⟩ := Ix.turn h1 h2 h3 h4 hr.is hr.ok hr.turn
  exact hyes (hw.1 hn) u' D' ⟨X.vt, T'⟩ i1 i2 hr.rows hr.dim hr.leaf (Nat.le_of_eq hr.gas)

theorem spec.ix_Search {u0 u : H} {D : Nat → Prop} {b : Nat} {X : Tr} {t : Sl} {q : List Int} {k bud : Int} {K : Sl → Sl → Sl → Int → H → Prop} (h : Ix u0 u D b X) (hgas : ixGas X ≤ 2700) (ht : Ints u t q)
    (hbad : askErr q X.dim k bud ≠ 0 → ∀ u', u.le u' → K ⟨none, 0, 0⟩ ⟨none, 0, 0⟩ ⟨none, 0, 0⟩ (askErr q X.dim k bud) u')
    (hok : askErr q X.dim k bud = 0 → ∀ sh ss sr rest u', AnsO u u' sh ss sr (ixH X q k bud) (ixS X q k bud) rest → rest.map Rgn.core = ixR X q k bud → K sh ss sr 0 u') : C.backend_Backend__Search (some ⟨b, 0, none⟩) t k bud u K := by
  obtain ⟨fp, h1, h2, h3, h4, h5, h6⟩ := h.ex
  apply vc.backend_Backend__Search
  refine ⟨fun e => (by cases e), fun _ => ⟨_, rfl, _, H.cell?_of h4 4, _, _, _, _, rfl, fun w _ => meth vmSearch _ w, bodyOf vhSearch, ?_⟩⟩
  exact Vp.spec.Search h5 h6 hgas ht (fun hne => hbad hne u (H.le.refl u)) hok

theorem ix_sound3 {u0 u : H} {D : Nat → Prop} {b : Nat} {X : Tr} (h : Ix u0 u D b X) {q : List Int} {k bud : Int} (he : askErr q X.dim k bud = 0) {L : List Rw} (hL : (L.map Rw.pr).Perm (ixRows X)) (hq : Qok L q) {rest : List Rgn} (hr : rest.map Rgn.core = ixR X q k bud) :
    Sound L q k (ixH X q k bud) (ixS X q k bud) rest ∧ ((ixS X q k bud).length : Int) ≤ bud ∧ (((ixS X q k bud).length : Int) = bud ∨ (ixS X q k bud).length = L.length ∨ CertA q k (ixH X q k bud) rest) := by
  obtain ⟨fp, _, _, _, _, h5, h6⟩ := h.ex
  obtain ⟨hv, k1, _, b0, _⟩ := askErr_ok.1 he
  exact Vp.tree_sound h6 k1 b0 (vcheck_ok hv).2.2.1 hL hq hr

/- No index. -/
theorem spec.ix_NilPut {id : Int} {s : Sl} {u : H} {K : Bool → Int → H → Prop} (h : ∀ u', u.le u' → K false 3 u') : C.backend_Backend__Put none id s u K :=
  vc.backend_Backend__Put none id s _ _ ⟨fun _ => h _ (H.le.refl u), fun hne => absurd rfl hne⟩
theorem spec.ix_NilDelete {id : Int} {u : H} {K : Bool → Int → H → Prop} (h : ∀ u', u.le u' → K false 3 u') : C.backend_Backend__Delete none id u K :=
  vc.backend_Backend__Delete none id _ _ ⟨fun _ => h _ (H.le.refl u), fun hne => absurd rfl hne⟩
theorem spec.ix_NilSearch {s : Sl} {k bud : Int} {u : H} {K : Sl → Sl → Sl → Int → H → Prop} (h : ∀ u', u.le u' → K ⟨none, 0, 0⟩ ⟨none, 0, 0⟩ ⟨none, 0, 0⟩ 3 u') : C.backend_Backend__Search none s k bud u K :=
  vc.backend_Backend__Search none s k bud _ _ ⟨fun _ => h _ (H.le.refl u), fun hne => absurd rfl hne⟩
theorem spec.ix_NilLen {u : H} {K : Int → H → Prop} (h : K 0 u) : C.backend_Backend__Len none u K :=
  vc.backend_Backend__Len none _ _ ⟨fun _ => h, fun hne => absurd rfl hne⟩
theorem spec.ix_NilRows {u : H} {K : Sl → H → Prop} (h : K ⟨none, 0, 0⟩ u) : C.backend_Backend__Rows none u K :=
  vc.backend_Backend__Rows none _ _ ⟨fun _ => h, fun hne => absurd rfl hne⟩
theorem spec.ix_NilSpec {u : H} {K : Int → Int → Int → Int → H → Prop} (h : K 0 0 0 0 u) : C.backend_Backend__Spec none u K :=
  vc.backend_Backend__Spec none _ _ ⟨fun _ => h, fun hne => absurd rfl hne⟩

/-- An element of an array's value. -/
theorem sem_index3 {a b c x : Int} {u : H} {K : Int → H → Prop} (x0 : 0 ≤ x) (x1 : x < 3) (h0 : x = 0 → K a u) (h1 : x = 1 → K b u) (h2 : x = 2 → K c u) : SemT Tryz.prog (Instr.index 97 (.agg #[.int .i64 a, .int .i64 b, .int .i64 c]) (.int .i64 x)) [.one (.int .i64)] u K := by
  have h : ∀ (y : Int), (∀ w : World, (Instr.index 97 (.agg #[.int .i64 a, .int .i64 b, .int .i64 c]) (.int .i64 x)).run Tryz.prog w = .ok (.int .i64 y) w) → K y u → SemT Tryz.prog (Instr.index 97 (.agg #[.int .i64 a, .int .i64 b, .int .i64 c]) (.int .i64 x)) [.one (.int .i64)] u K := fun y hr hK => SemT.one' (c := .int .i64) y (fun w _ => hr w) hK
  obtain rfl | rfl | rfl : x = 0 ∨ x = 1 ∨ x = 2 := by omega
  · exact h a (fun w => by kernel_rfl) (h0 rfl)
  · exact h b (fun w => by kernel_rfl) (h1 rfl)
  · exact h c (fun w => by kernel_rfl) (h2 rfl)

/-- The examples' way of building is one that may be. -/
theorem spec.factory_Check3 {u : H} {K : Int → H → Prop} (h : ∀ u', u.le u' → K 0 u') : C.factory_Check 3 2 0 0 u K := by
  apply vc.factory_Check
  intro n0 hn0
  refine st_new (zs := [.int .i64 0, .int .i64 0, .int .i64 0]) rfl (by simp [Value.oneCell']) ?_
  obtain ⟨u1, hu1⟩ : ∃ u1, u1 = u.ins n0 (.cells [Value.int .i64 64, .int .i64 0, .int .i64 0].toArray 97 (0, 0)) := ⟨_, rfl⟩
  rw [← hu1]
  have l1 : u.le u1 := by rw [hu1]; exact H.le_ins _ hn0
  have d0 : u1 n0 = some (.cells [Value.int .i64 64, .int .i64 0, .int .i64 0].toArray 97 (0, 0)) := by rw [hu1]; exact H.ins_same _ _ _
  intro K2 h2
  refine ⟨fun e => absurd e (by decide), fun _ => ?_⟩
  intro K15 h15
  refine ⟨fun e => absurd e (by decide), fun _ => h15 _ _ ⟨fun _ => h2 0 u1 ?_, fun e => (by cases e)⟩⟩
  refine ⟨fun _ x w => 0 ≤ x ∧ x ≤ 3 ∧ w = u1, fun _ x _ => (3 - x).toNat, ⟨by omega, by omega, rfl⟩, ?_⟩
  rintro x7 x w ⟨x0, x1, rfl⟩
  refine ⟨fun hx => sem_index3 x0 hx (fun e => ?_) (fun e => ?_) (fun e => ?_), fun _ => h w l1⟩
  · subst e
    refine ⟨by decide, ⟨by omega, by omega⟩, 64, H.cell?_of d0 0, fun hc => absurd hc (by decide), fun _ => ⟨by decide, ⟨by omega, by omega⟩, 64, H.cell?_of d0 0, fun hc => absurd hc (by decide), fun _ => ⟨⟨by omega, by omega⟩, ⟨by omega, by omega, rfl⟩, by dsimp only; omega⟩⟩⟩
  · subst e
    refine ⟨by decide, ⟨by omega, by omega⟩, 0, H.cell?_of d0 1, fun hc => absurd hc (by decide), fun _ => ⟨by decide, ⟨by omega, by omega⟩, 0, H.cell?_of d0 1, fun hc => absurd hc (by decide), fun _ => ⟨⟨by omega, by omega⟩, ⟨by omega, by omega, rfl⟩, by dsimp only; omega⟩⟩⟩
  · subst e
    refine ⟨by decide, ⟨by omega, by omega⟩, 0, H.cell?_of d0 2, fun hc => absurd hc (by decide), fun _ => ⟨by decide, ⟨by omega, by omega⟩, 0, H.cell?_of d0 2, fun hc => absurd hc (by decide), fun _ => ⟨⟨by omega, by omega⟩, ⟨by omega, by omega, rfl⟩, by dsimp only; omega⟩⟩⟩

theorem st_bk {u : H} {n : Nat} {v : Value} {f : H → Prop} (h : u n = some (.cells #[.int .i64 3, .int .i64 2, .int .i64 0, .int .i64 0, .nilIface] 54 (0, 0))) (hv : v.oneCell' = true) (hf : f (u.ins n (.cells #[.int .i64 3, .int .i64 2, .int .i64 0, .int .i64 0, v] 54 (0, 0)))) : H.St u (Addr.add (Addr.mk n 0 none) 4) [v] f :=
  ⟨_, _, h, rfl, by simp [Addr.add_lit], by simp [hv], hf⟩

theorem spec.ix_Build {s : Sl} {l : List Rw} {dim seed : Int} {u : H} {K : Option Addr → Int → H → Prop} (hs : Rws u s l) (hg : Vp.ixErr l dim 2 = 0) (hok : ∀ b D X u', Ix u u' D b X → (ixRows X).Perm (l.map Rw.pr) → X.dim = dim → ixGas X = 0 → K (some ⟨b, 0, none⟩) 0 u') : C.theodolitelaw14_build s dim 3 2 0 0 seed u K := by
  have hrc : rcheck l dim = 0 := by
    unfold Vp.ixErr at hg
    split at hg
    · rename_i h1; exact absurd hg h1
    · rename_i h1; simpa using h1
  apply vc.theodolitelaw14_build
  apply vc.backend_Build
  refine spec.factory_Check3 fun u1 l1 => ⟨fun hx => absurd rfl hx, fun _ => ?_⟩
  have hs1 := hs.mono l1
  refine spec.flat_Check hs1 ?_
  rw [hrc]
  refine ⟨fun hx => absurd rfl hx, fun _ => ?_⟩
  intro K4 h4
  refine ⟨fun e => absurd e (by decide), fun _ => h4 none _ _ ?_⟩
  clear h4 K4
  intro n8 hn8 K9 h9
  have l2 := H.le_ins (u := u1) (b := n8) (.cells #[.int .i64 3, .int .i64 2, .int .i64 0, .int .i64 0, .nilIface] 54 (0, 0)) hn8
  refine ⟨fun e => absurd e (by decide), fun _ => ⟨fun _ => ?_, fun e => absurd rfl e⟩⟩
  refine Vp.spec.Build (hs1.mono l2) (fun hne => absurd hg hne) fun _ u18 bt fp T hr => ?_
  have hb8 : u18 n8 = some (.cells #[.int .i64 3, .int .i64 2, .int .i64 0, .int .i64 0, .nilIface] 54 (0, 0)) := hr.is.le _ _ (H.ins_same _ _ _)
  have hf8 : fp n8 = none := by
    cases e : fp n8 with
    | none => rfl
    | some x => have := hr.is.out n8 (by rw [e]; simp); rw [H.ins_same] at this; cases this
  refine st_bk hb8 (by simp [Value.oneCell']) (h9 0 _ ⟨fun hx => absurd rfl hx, fun _ => ?_⟩)
  obtain ⟨u19, hu19⟩ : ∃ u19, u19 = u18.ins n8 (bkO bt) := ⟨_, rfl⟩
  show K (some ⟨n8, 0, none⟩) 0 (u18.ins n8 (bkO bt))
  rw [← hu19]
  have k19 : ∀ c o, u18 c = some o → c ≠ n8 → u19 c = some o := fun c o hc hne => by rw [hu19, H.ins_other _ _ hne]; exact hc
  have hu0 : u n8 = none := l1.none hn8
  have le19 : u.le u19 := fun c o hc => k19 c o (hr.is.le c o (l2 c o (l1 c o hc))) fun e => by rw [e, hu0] at hc; cases hc
  have is19 : Vp.In u u19 fp bt T := by
    have i1 : Vp.In (u1.ins n8 (.cells #[.int .i64 3, .int .i64 2, .int .i64 0, .int .i64 0, .nilIface] 54 (0, 0))) u18 fp bt T := hr.is
    refine ⟨Vp.keep.keep i1.tr (fun _ _ => rfl) fun c o hc hf => k19 c o hc fun e => hf (by rw [e]; exact hf8), le19, fun c hc => ?_, fun c hc => ?_⟩
    · exact l1.none (l2.none (i1.out c hc))
    · obtain ⟨o, ho⟩ := Option.ne_none_iff_exists'.1 (i1.known c hc)
      rw [k19 c o ho fun e => hc (by rw [e]; exact hf8)]; simp
  exact hok n8 _ ⟨bt, T⟩ u19 ⟨fp, fun _ => Iff.rfl, hf8, hu0, by rw [hu19]; exact H.ins_same _ _ _, is19, hr.ok⟩ hr.rows hr.dim hr.gas

end Go.Proofs.YtbohcdjoglidhaaGreatDoor

/- VcBkT1 -/
namespace Go.Proofs.YtbohcdjoglidhaaGreatDoor

structure Cll where
  kind : Int
  id : Int
  k : Int
  bud : Int
  rid : Int
  rv : Sl
  v : List Int
  qs : Sl
  q : List Int

def encO (o : Cll) : List Value := [.int .i64 o.kind, .int .i64 o.id, .int .i64 o.k, .int .i64 o.bud, .int .i64 o.rid, .slice o.rv.a o.rv.n o.rv.c, .slice o.qs.a o.qs.n o.qs.c]
theorem encO_len (o : Cll) : (encO o).length = 7 := rfl
theorem encO_one (o : Cll) : ∀ v ∈ encO o, v.oneCell' = true := by simp [encO, Value.oneCell']

/-- Calls in memory. -/
def Ops (u : H) (s : Sl) (l : List Cll) : Prop := Seg u s 7 (l.flatMap encO) ∧ ∀ o ∈ l, Ints u o.rv o.v ∧ Ints u o.qs o.q

theorem Ops.len {u : H} {s : Sl} {l : List Cll} (h : Ops u s l) : s.n = l.length := flat_n encO_len (by decide) h.1
theorem Ops.max {u : H} {s : Sl} {l : List Cll} (h : Ops u s l) : s.n ≤ 9223372036854775807 := Nat.le_trans (Seg.cap h.1) (Seg.max h.1)
theorem Ops.mono {u u' : H} {s : Sl} {l : List Cll} (h : Ops u s l) (k : u.le u') : Ops u' s l := ⟨h.1.mono k, fun o ho => ⟨(h.2 o ho).1.mono k, (h.2 o ho).2.mono k⟩⟩
theorem Ops.nil (u : H) : Ops u ⟨none, 0, 0⟩ [] := ⟨⟨rfl, Nat.le_refl _, by decide, .inl rfl⟩, fun _ h => by cases h⟩

theorem Ops.at {u : H} {s : Sl} {l : List Cll} (h : Ops u s l) {x : Int} (h0 : 0 ≤ x) (h1 : x < (s.n : Int)) : ∃ p, s.a = some p ∧ ∃ o : Cll, l[x.toNat]? = some o ∧ o ∈ l ∧ u.cell? (p.add (x.toNat * 7)) = some (.int .i64 o.kind) ∧ u.cell? ((p.add (x.toNat * 7)).add 1) = some (.int .i64 o.id) ∧
    u.cell? ((p.add (x.toNat * 7)).add 2) = some (.int .i64 o.k) ∧ u.cell? ((p.add (x.toNat * 7)).add 3) = some (.int .i64 o.bud) ∧ u.cell? ((p.add (x.toNat * 7)).add 4) = some (.int .i64 o.rid) ∧
    u.cell? ((p.add (x.toNat * 7)).add 5) = some (.slice o.rv.a o.rv.n o.rv.c) ∧ u.cell? ((p.add (x.toNat * 7)).add 6) = some (.slice o.qs.a o.qs.n o.qs.c) ∧ Ints u o.rv o.v ∧ Ints u o.qs o.q := by
  have hn := h.len
  have hlt : x.toNat < l.length := by omega
  have hx : l[x.toNat]? = some l[x.toNat] := List.getElem?_eq_getElem hlt
  obtain ⟨p, hp, hc⟩ := Seg.elem encO_len (by decide) h.1 hx
  have h0' := hc 0 _ rfl
  rw [Addr.add_zero'] at h0'
  have hm := List.getElem_mem hlt
  exact ⟨p, hp, _, hx, hm, h0', hc 1 _ rfl, hc 2 _ rfl, hc 3 _ rfl, hc 4 _ rfl, hc 5 _ rfl, hc 6 _ rfl, (h.2 _ hm).1, (h.2 _ hm).2⟩

/-- What comes in: rows, calls. -/
structure Come2 (u : H) (s t : Sl) (l : List Rw) (ops : List Cll) : Prop where
  rows : Rws u s l
  calls : Ops u t ops
  small : ∀ r ∈ l, r.v.length ≤ 17592186044416
  sn : s.n ≤ 17592186044416
  smallO : ∀ o ∈ ops, o.v.length ≤ 17592186044416 ∧ o.q.length ≤ 17592186044416
  tn : t.n ≤ 17592186044416

theorem spec.theodolitelaw14_big {s t : Sl} {l : List Rw} {ops : List Cll} {u : H} {K : Bool → H → Prop} (hc : Come2 u s t l ops) (h1 : K true u)
    (h2 : l.length ≤ 2000 → ops.length ≤ 2000 → (∀ r ∈ l, r.v.length ≤ 32768) → (∀ o ∈ ops, o.v.length ≤ 32768 ∧ o.q.length ≤ 32768) → K false u) : C.theodolitelaw14_big s t u K := by
  have hsn := hc.rows.len
  have htn := hc.calls.len
  apply vc.theodolitelaw14_big
  intro K0 hK0
  refine ⟨fun _ => h1, fun ht => ⟨fun _ => h1, fun hs => spec.theodolitekeep_Vectors' hc.rows hc.small hc.sn (by omega) fun x hx => ⟨fun _ => h1, fun hx' => hK0 _ _ ?_⟩⟩⟩
  have hv : ∀ r ∈ l, r.v.length ≤ 32768 := fun r hr => by have := hx (by omega) r hr; omega
  have fin : ∀ n : Int, (n ≤ 32768 → ∀ o ∈ ops, o.v.length ≤ 32768 ∧ o.q.length ≤ 32768) → ∀ bb : Bool, (bb = true ↔ 32768 < n) → K bb u := fun n hn bb hb => by
    cases bb with
    | true => exact h1
    | false => exact h2 (by omega) (by omega) hv (hn (by
        by_cases e : 32768 < n
        · have := hb.2 e; cases this
        · omega))
  refine ⟨fun n i w => w = u ∧ 0 ≤ i ∧ i ≤ ops.length ∧ 0 ≤ n ∧ ∀ o ∈ ops.take i.toNat, (o.v.length : Int) ≤ n ∧ (o.q.length : Int) ≤ n, fun _ i _ => ops.length - i.toNat, ⟨rfl, by omega, by omega, by omega, fun o ho => by simp at ho⟩, ?_⟩
  rintro n i w ⟨rfl, i0, i1, n0, hacc⟩
  intro K8 hK8
  refine ⟨fun hil => ⟨fun hn => hK8 _ ?_, fun hn => fin n (fun h => absurd h hn) _ (by simp)⟩, fun hig => fin n (fun hn o ho => ?_) _ (by simp)⟩
  · obtain ⟨p, hp, o, ho, hom, c0, c1, c2, c3, c4, c5, c6, hv1, hv2⟩ := hc.calls.at i0 hil
    have l1 := hv1.len
    have l2 := hv2.len
    obtain ⟨s1, s2⟩ := hc.smallO o hom
    refine ⟨p, hp, ⟨i0, hil⟩, p, hp, ⟨i0, hil⟩, _, by rw [Addr.add_add']; exact c5, ⟨by omega, by omega⟩, _, c6, ⟨by omega, by omega⟩, ⟨by omega, by omega⟩, ⟨rfl, by omega, by omega, by omega, fun o' ho' => ?_⟩, by dsimp only; omega⟩
    rw [show (i + 1).toNat = i.toNat + 1 by omega, List.take_add_one, ho] at ho'
    rcases List.mem_append.1 ho' with h' | h'
    · have := hacc o' h'; omega
    · simp at h'; subst h'; omega
  · have hi : i.toNat = ops.length := by
      have : ¬ i < (t.n : Int) := hig
      omega
    rw [hi, List.take_length] at hacc
    have := hacc o ho
    omega

theorem build_rows4' (a b c d : Sl) : buildOf Tryz.prog 43 4 #[(0, .agg #[.int .i64 1, .slice a.a a.n a.c]), (1, .agg #[.int .i64 2, .slice b.a b.n b.c]), (2, .agg #[.int .i64 3, .slice c.a c.n c.c]), (3, .agg #[.int .i64 4, .slice d.a d.n d.c])] =
    some (24, [.int .i64 1, .slice a.a a.n a.c, .int .i64 2, .slice b.a b.n b.c, .int .i64 3, .slice c.a c.n c.c, .int .i64 4, .slice d.a d.n d.c]) := by kernel_rfl

def exT (a b c d : Sl) : List Rw := [⟨1, a, [0, 0]⟩, ⟨2, b, [3, 4]⟩, ⟨3, c, [0, 1]⟩, ⟨4, d, [30, 40]⟩]

theorem spec.theodolitelaw14_rows {u : H} {K : Sl → H → Prop} (h : ∀ s u' a b c d, u.le u' → Rws u' s (exT a b c d) → K s u') : C.theodolitelaw14_rows u K := by
  apply vc.theodolitelaw14_rows
  refine sem_build (build_ints2 _ _) fun g1 h1 => sem_build (build_ints2 _ _) fun g2 h2 => sem_build (build_ints2 _ _) fun g3 h3 => sem_build (build_ints2 _ _) fun g4 h4 => sem_build (build_rows4' _ _ _ _) fun g5 h5 => ?_
  have i1 := ints_made (H.le.refl u) h1 [0, 0] 3 (by simp)
  have i2 := ints_made (H.le.refl _) h2 [3, 4] 3 (by simp)
  have i3 := ints_made (H.le.refl _) h3 [0, 1] 3 (by simp)
  have i4 := ints_made (H.le.refl _) h4 [30, 40] 3 (by simp)
  have l1 := H.le_ins (u := u) (b := g1) (.cells [Value.int .i64 0, .int .i64 0].toArray 3 (0, 0)) h1
  have l2 := H.le_ins (b := g2) (.cells [Value.int .i64 3, .int .i64 4].toArray 3 (0, 0)) h2
  have l3 := H.le_ins (b := g3) (.cells [Value.int .i64 0, .int .i64 1].toArray 3 (0, 0)) h3
  have l4 := H.le_ins (b := g4) (.cells [Value.int .i64 30, .int .i64 40].toArray 3 (0, 0)) h4
  have m := OwnF.make (k := 2) (H.le.refl _) h5 (cells := [Value.int .i64 1, .slice (some ⟨g1, 0, none⟩) 2 2, .int .i64 2, .slice (some ⟨g2, 0, none⟩) 2 2, .int .i64 3, .slice (some ⟨g3, 0, none⟩) 2 2, .int .i64 4, .slice (some ⟨g4, 0, none⟩) 2 2].toArray) (e := 24) (n := 4) (by omega) rfl
  refine h _ _ ⟨some ⟨g1, 0, none⟩, 2, 2⟩ ⟨some ⟨g2, 0, none⟩, 2, 2⟩ ⟨some ⟨g3, 0, none⟩, 2, 2⟩ ⟨some ⟨g4, 0, none⟩, 2, 2⟩ ?_ ⟨m.own.seg, ?_⟩
  · exact (((l1.trans l2).trans l3).trans l4).trans m.le
  · intro r hr
    simp only [exT, List.mem_cons, List.not_mem_nil, or_false] at hr
    rcases hr with rfl | rfl | rfl | rfl
    · exact i1.mono (((l2.trans l3).trans l4).trans m.le)
    · exact i2.mono ((l3.trans l4).trans m.le)
    · exact i3.mono (l4.trans m.le)
    · exact i4.mono m.le

theorem exT_q (a b c d : Sl) : Qok (exT a b c d) [0, 0] := asked_ok.1 (by kernel_rfl)
theorem exT_top (a b c d : Sl) : topk 2 ((exT a b c d).map (hitOf [0, 0])) = [(1, 0), (3, 1)] := by kernel_rfl
theorem exT_build (a b c d : Sl) : ixErr (exT a b c d) 2 2 0 = 0 := by kernel_rfl

/-- With a budget for all a search tells the first k. -/
theorem ix_enough {u0 u : H} {D : Nat → Prop} {b : Nat} {X : Tr} (h : Ix u0 u D b X) {q : List Int} {k bud : Int} (he : askErr q X.dim k bud = 0) {L : List Rw} (hL : (L.map Rw.pr).Perm (ixRows X)) (hqok : Qok L q) (hb : (L.length : Int) ≤ bud) :
    ixH X q k bud = topk k.toNat (L.map (hitOf q)) ∧ (ixS X q k bud).length ≤ (ixRows X).length := by
  obtain ⟨hv, k1, k2, _, _⟩ := askErr_ok.1 he
  have hlen := hL.length_eq
  rw [List.length_map] at hlen
  obtain ⟨hS, h1, h2⟩ := ix_sound3 h he hL hqok (rgnOf_core (ixR X q k bud))
  have hal := hS.all.length_eq
  rw [List.length_append, List.length_map] at hal
  refine ⟨hS.certain hqok k1 ?_, by omega⟩
  have seenAll : (ixS X q k bud).length = L.length → CertA q k (ixH X q k bud) ((ixR X q k bud).map rgnOf) := fun h2 => by
    left
    generalize (ixR X q k bud).map rgnOf = rest at *
    cases rest with
    | nil => rfl
    | cons r rs =>
      have h3 := (hS.reg r (List.mem_cons_self ..)).2.1
      have h4 := List.length_pos_iff.2 h3
      rw [List.flatMap_cons, List.length_append] at hal
      omega
  rcases h2 with h2 | h2 | h2
  · exact seenAll (by omega)
  · exact seenAll h2
  · exact h2

theorem spec.theodolitelaw14_awake {u : H} {K : Bool → H → Prop} (hTab : TabU u) (h : ∀ u', u.le u' → K true u') : C.theodolitelaw14_awake u K := by
  apply vc.theodolitelaw14_awake
  have q0 : ∀ {w : H} {g : Nat} (hg : w g = none) (x y : Int), Ints (w.ins g (.cells [Value.int .i64 x, .int .i64 y].toArray 3 (0, 0))) ⟨some ⟨g, 0, none⟩, 2, 2⟩ [x, y] := fun {w g} hg x y => ints_made (H.le.refl w) hg [x, y] 3 (by simp)
  refine spec.theodolitelaw14_rows fun s0 u1 a b c d l1 r1 => ?_
  refine spec.ix_Build r1 (exT_build a b c d) fun bt D X u4 hX hrows hdim hg0 => ?_
  have hlen : (ixRows X).length = 4 := by have := hrows.length_eq; simpa [exT] using this
  intro K5 hK5
  refine ⟨fun e => (by cases e), fun _ => ⟨fun e => absurd rfl e, fun _ => spec.ix_Len hX ⟨fun hne => absurd (by rw [hlen]; rfl) hne, fun _ => hK5 _ _ ?_⟩⟩⟩
  clear hK5 K5
  -- a search
  refine sem_build (build_ints2 0 0) fun g1 h1 => ?_
  have m1 := H.le_ins (u := u4) (b := g1) (.cells [Value.int .i64 0, .int .i64 0].toArray 3 (0, 0)) h1
  have hask : askErr [0, 0] X.dim 2 4 = 0 := by rw [hdim]; decide
  refine spec.ix_Search (hX.mono m1) (by omega) (q0 h1 0 0) (fun hne => absurd hask hne) fun _ s10 s11 s12 rest u14 ha hcore => ?_
  have hhits := (ix_enough hX hask (L := exT a b c d) hrows.symm (exT_q a b c d) (Int.le_refl _)).1
  have e2 : topk (Int.toNat 2) ((exT a b c d).map (hitOf [0, 0])) = [(1, 0), (3, 1)] := exT_top a b c d
  rw [e2] at hhits
  have hoh := ha.h
  rw [hhits] at hoh
  have hX14 := hX.mono (m1.trans ha.le)
  have hD10 : ∀ g, s10.blk = some g → ¬ D g := fun g hg hd => by
    have := ha.h.fresh g hg
    obtain ⟨o, ho⟩ := Option.ne_none_iff_exists'.1 (hX.base.2.2 g hd)
    rw [m1 _ _ ho] at this; cases this
  have hk10 : ∀ g, s10.blk = some g → ∃ o, u14 g = some o := fun g hg => Option.ne_none_iff_exists'.1 (own_known ha.h hg)
  clear hhits hcore ha
  -- puts and a deletion
  refine sem_build (build_ints2 9 9) fun g2 h2 => ?_
  have m2 := H.le_ins (u := u14) (b := g2) (.cells [Value.int .i64 9, .int .i64 9].toArray 3 (0, 0)) h2
  have hid : ∀ x, x ∈ (ixRows X).map (·.1) ↔ x ∈ ([1, 2, 3, 4] : List Int) := fun x => (hrows.map (·.1)).mem_iff
  have t3 : decide ((3 : Int) ∈ (ixRows X).map (·.1)) = true := decide_eq_true ((hid 3).2 (by decide))
  have t3' : decide ((3 : Int) ∉ (ixRows X).map (·.1)) = false := decide_eq_false fun h => h ((hid 3).2 (by decide))
  have hm3 : mayErr 3 [9, 9] X.dim (decide ((3 : Int) ∈ (ixRows X).map (·.1))) (ixRows X).length = 0 := by rw [t3, hdim, hlen]; decide
  have hDn : ∀ {z : H} {g : Nat}, (∀ c, D c → z c ≠ none) → z g = none → ∀ g', (⟨some ⟨g, 0, none⟩, 2, 2⟩ : Sl).blk = some g' → ¬ D g' := fun {z g} hz hg g' hg' hd => by
    have : g = g' := by simpa [Sl.blk] using hg'
    exact hz g' hd (by rw [← this]; exact hg)
  refine spec.ix_Put (hX14.mono m2) (by omega) (hTab.mono l1) (q0 h2 9 9) (hDn hX14.base.2.2 h2) (fun hne => absurd hm3 hne) fun _ u19 D2 X2 hX2 ht2 hr2 hd2 _ hg2 => ?_
  rw [t3']
  have hk19 : ∀ g, s10.blk = some g → ∀ o, u14 g = some o → u19 g = some o ∧ ¬ D2 g := fun g hg o ho => by
    refine ⟨ht2.keep g o (m2 _ _ ho) (hD10 g hg), fun hd => ?_⟩
    rcases ht2.grow g hd with h5 | h5
    · exact hD10 g hg h5
    · rw [m2 _ _ ho] at h5; cases h5
  have hp2 : (ixRows X2).Perm [(3, [9, 9]), (1, [0, 0]), (2, [3, 4]), (4, [30, 40])] := by
    refine hr2.trans (List.Perm.cons _ ?_)
    exact (hrows.filter _).trans (List.Perm.refl _)
  have hid2 : (1 : Int) ∈ (ixRows X2).map (·.1) := (hp2.map (·.1)).mem_iff.2 (by decide)
  refine spec.ix_Delete hX2 (by omega) (fun hno => absurd hid2 hno) fun _ u22 D3 X3 hX3 ht3 hr3 hd3 _ hg3 => ?_
  have hl3 : (ixRows X3).length = 3 := by
    rw [hr3]
    have := (hp2.filter fun x => x.1 != 1).length_eq
    exact this
  have hk22 : ∀ g, s10.blk = some g → ∀ o, u14 g = some o → u22 g = some o := fun g hg o ho => by
    obtain ⟨h5, h6⟩ := hk19 g hg o ho
    exact ht3.keep g o h5 h6
  refine sem_build (build_ints2 1 1) fun g3 h3 => ?_
  have m3 := H.le_ins (u := u22) (b := g3) (.cells [Value.int .i64 1, .int .i64 1].toArray 3 (0, 0)) h3
  have hm0 : mayErr 0 [1, 1] X3.dim (decide ((0 : Int) ∈ (ixRows X3).map (·.1))) (ixRows X3).length = 50 := by unfold mayErr; rw [if_pos (by omega)]
  have hDn3 : ∀ g', (⟨some ⟨g3, 0, none⟩, 2, 2⟩ : Sl).blk = some g' → ¬ D3 g' := fun g' hg' hd => by
    have : g3 = g' := by simpa [Sl.blk] using hg'
    exact hX3.base.2.2 g' hd (by rw [← this]; exact h3)
  refine spec.ix_Put (hX3.mono m3) (by omega) (hTab.mono l1) (q0 h3 1 1) hDn3 (fun _ => ?_) fun he => by rw [hm0] at he; cases he
  rw [hm0]
  have hfin := h _ ((l1.trans (hX3.base.1)).trans m3)
  have hts : Hts _ s10 [((1 : Int), (0 : Int)), (3, 1)] := Seg.else hoh.hts fun g o hg ho => m3 _ _ (hk22 g hg o ho)
  intro K28 hK28
  refine ⟨fun _ => ⟨fun _ => ⟨fun _ => ⟨fun _ => ⟨fun _ => ⟨fun _ => spec.ix_Len (hX3.mono m3) ?_, fun e => (by cases e)⟩, fun e => (by cases e)⟩, fun e => absurd rfl e⟩, fun e => absurd rfl e⟩, fun e => absurd rfl e⟩, fun e => absurd rfl e⟩
  have kt : ∀ bb : Bool, bb = true → K bb (u22.ins g3 (.cells [Value.int .i64 1, .int .i64 1].toArray 3 (0, 0))) := fun bb hb => by rw [hb]; exact hfin
  refine hK28 _ _ ⟨fun _ => ?_, fun hb => ?_⟩
  · have hn2 := hts.len
    refine ⟨fun _ => ?_, fun hne => absurd (by rw [hn2]; rfl) hne⟩
    obtain ⟨p, hp, x, hx, c0, c1, c2⟩ := hts.at (x := 0) (by omega) (by rw [hn2]; decide)
    obtain ⟨p', hp', y, hy, d0, d1, d2⟩ := hts.at (x := 1) (by omega) (by rw [hn2]; decide)
    have hpp : p' = p := by rw [hp] at hp'; exact (Option.some.inj hp').symm
    subst hpp
    have hx' : x = (1, 0) := by simpa using hx.symm
    have hy' : y = (3, 1) := by simpa using hy.symm
    subst hx'; subst hy'
    refine ⟨_, hp, ⟨by omega, by rw [hn2]; decide⟩, _, c0, _, c1, _, c2, fun _ => ⟨_, hp, ⟨by omega, by rw [hn2]; decide⟩, _, d0, _, d1, _, d2, kt _ ?_⟩, fun hne => absurd ⟨rfl, rfl, rfl⟩ hne⟩
    exact decide_eq_true ⟨rfl, rfl, rfl⟩
  · rw [hl3] at hb
    simp at hb

end Go.Proofs.YtbohcdjoglidhaaGreatDoor

/- VcBkO -/
namespace Go.Proofs.YtbohcdjoglidhaaGreatDoor
open Go.ChangeShapes Go.WideShapes Go.ChangeAt Go.RowKit

theorem cellsOp : Tryz.prog.cellsOf 26 = 7 := by kernel_rfl
theorem bytesOp : Tryz.prog.bytesOf 26 = 88 := by kernel_rfl

section
variable {H' : Type} {enc : TypeId × Value → H'}

/-- One row, opened. -/
theorem open_row1 {W : World} {cs : List Value} {fuel : Nat} {x : DataW H' × List MemPlace} (h : DataW.trod enc Tryz.prog W 0 (fun _ => true) true fuel 24 cs = some x) (hw : ∀ n ∈ x.1.weights Tryz.prog 24, n ≤ reachBytes) :
    ∃ (i : Int) (s : Sl) (v : List Int), cs = [.int .i64 i, .slice s.a s.n s.c] ∧ Ints (whole W) s v ∧ v.length ≤ 17592186044416 := by
  obtain ⟨y0, y1, k, hxy, hlen, u0, u1⟩ := trod_struct2 Tryz.underlying24 h
  rw [cells41o] at hlen
  match cs, hlen with
  | [v0, v1], _ =>
    simp only [cells3o, cells23o, List.drop, List.take] at u0 u1
    obtain ⟨q, e0, _, _⟩ := DataW.trod_int Tryz.underlying3 u0
    simp only [List.cons.injEq, and_true] at e0
    subst e0
    obtain ⟨s, rfl⟩ := cells_one u1
    obtain ⟨zs, hz, hzl⟩ := open_q u1 (fun n hn => hw n (by
      rw [hxy]
      simp only [DataW.weights, show Tryz.prog.underlying 24 = some _ from Tryz.underlying24]
      simp only [List.map_cons, List.map_nil, DataW.weightsEach, List.mem_append]
      exact .inr (.inl hn)))
    exact ⟨q, s, zs, rfl, hz, hzl⟩

/-- One call, opened. -/
theorem open_op1 {W : World} {cs : List Value} {fuel : Nat} {x : DataW H' × List MemPlace} (h : DataW.trod enc Tryz.prog W 0 (fun _ => true) true fuel 26 cs = some x) (hw : ∀ n ∈ x.1.weights Tryz.prog 26, n ≤ reachBytes) :
    ∃ o : Cll, cs = encO o ∧ Ints (whole W) o.rv o.v ∧ Ints (whole W) o.qs o.q ∧ o.v.length ≤ 17592186044416 ∧ o.q.length ≤ 17592186044416 := by
  obtain ⟨xs, n, _, hxy, hlen, hxl, hf⟩ := DataW.trod_struct Tryz.underlying26 h
  rw [cellsOp] at hlen
  match xs, hxl, cs, hlen with
  | [y0, y1, y2, y3, y4, y5], _, [v0, v1, v2, v3, v4, v5, v6], _ =>
    have f0 : DataW.trod enc Tryz.prog W 0 (fun _ => true) true n 3 (([v0, v1, v2, v3, v4, v5, v6].drop 0).take (Tryz.prog.cellsOf 3)) = some y0 := hf 0 _ rfl
    have f1 : DataW.trod enc Tryz.prog W 0 (fun _ => true) true n 3 (([v0, v1, v2, v3, v4, v5, v6].drop 1).take (Tryz.prog.cellsOf 3)) = some y1 := hf 1 _ rfl
    have f2 : DataW.trod enc Tryz.prog W 0 (fun _ => true) true n 3 (([v0, v1, v2, v3, v4, v5, v6].drop 2).take (Tryz.prog.cellsOf 3)) = some y2 := hf 2 _ rfl
    have f3 : DataW.trod enc Tryz.prog W 0 (fun _ => true) true n 3 (([v0, v1, v2, v3, v4, v5, v6].drop 3).take (Tryz.prog.cellsOf 3)) = some y3 := hf 3 _ rfl
    have f4 : DataW.trod enc Tryz.prog W 0 (fun _ => true) true n 24 (([v0, v1, v2, v3, v4, v5, v6].drop 4).take (Tryz.prog.cellsOf 24)) = some y4 := hf 4 _ rfl
    have f5 : DataW.trod enc Tryz.prog W 0 (fun _ => true) true n 22 (([v0, v1, v2, v3, v4, v5, v6].drop 6).take (Tryz.prog.cellsOf 22)) = some y5 := hf 5 _ rfl
    simp only [cells3o, cells23o, cells41o, List.drop, List.take] at f0 f1 f2 f3 f4 f5
    obtain ⟨q0, e0, _, _⟩ := DataW.trod_int Tryz.underlying3 f0
    obtain ⟨q1, e1, _, _⟩ := DataW.trod_int Tryz.underlying3 f1
    obtain ⟨q2, e2, _, _⟩ := DataW.trod_int Tryz.underlying3 f2
    obtain ⟨q3, e3, _, _⟩ := DataW.trod_int Tryz.underlying3 f3
    have hin : ∀ {t : TypeId} {y : DataW H' × List MemPlace}, ∀ m : Nat, m ∈ y.1.weights Tryz.prog t → (t = 24 ∧ y = y4 ∨ t = 22 ∧ y = y5) → m ≤ reachBytes := fun m hm hc => hw m (by
      rw [hxy]
      simp only [DataW.weights, show Tryz.prog.underlying 26 = some _ from Tryz.underlying26]
      simp only [List.map_cons, List.map_nil, DataW.weightsEach, List.mem_append]
      rcases hc with ⟨rfl, rfl⟩ | ⟨rfl, rfl⟩
      · exact .inr (.inr (.inr (.inr (.inl hm))))
      · exact .inr (.inr (.inr (.inr (.inr (.inl hm))))))
    obtain ⟨ri, rs, rv, er, hr, hrl⟩ := open_row1 f4 (fun m hm => hin m hm (.inl ⟨rfl, rfl⟩))
    obtain ⟨qs, eq⟩ := cells_one f5
    subst eq
    obtain ⟨zs, hz, hzl⟩ := open_q f5 (fun m hm => hin m hm (.inr ⟨rfl, rfl⟩))
    simp only [List.cons.injEq, and_true] at e0 e1 e2 e3 er
    obtain ⟨er0, er1⟩ := er
    subst e0 e1 e2 e3 er0 er1
    exact ⟨⟨q0, q1, q2, q3, ri, rs, rv, qs, zs⟩, rfl, hr, hz, hrl, hzl⟩

instance : Inhabited Cll := ⟨⟨0, 0, 0, 0, 0, ⟨none, 0, 0⟩, [], ⟨none, 0, 0⟩, []⟩⟩

end

end Go.Proofs.YtbohcdjoglidhaaGreatDoor

/- VcBkNil -/
namespace Go.Proofs.YtbohcdjoglidhaaGreatDoor

theorem Rws.nil (u : H) : Rws u ⟨none, 0, 0⟩ [] := ⟨⟨rfl, Nat.le_refl _, by decide, .inl rfl⟩, fun _ h => (by cases h)⟩

theorem build_op (a b c d e : Int) (s t : Sl) : buildOf Tryz.prog 28 1 #[(0, .agg #[.int .i64 a, .int .i64 b, .int .i64 c, .int .i64 d, .int .i64 e, .slice s.a s.n s.c, .slice t.a t.n t.c])] =
    some (26, [.int .i64 a, .int .i64 b, .int .i64 c, .int .i64 d, .int .i64 e, .slice s.a s.n s.c, .slice t.a t.n t.c]) := by kernel_rfl

theorem law.BackendNil {kind id k bud rid : Int} {rv qs : Sl} {v q : List Int} {u : H} {K : Bool → H → Prop} (hTab : TabU u) (hv : Ints u rv v) (hq : Ints u qs q) (hv1 : v.length ≤ 17592186044416) (hq1 : q.length ≤ 17592186044416) (h : ∀ u', u.le u' → K true u') :
    C.theodolitelaw14_BackendNil kind id k bud rid rv qs u K := by
  apply vc.theodolitelaw14_BackendNil
  refine sem_build (build_op _ _ _ _ _ _ _) fun g hg => ?_
  have l1 := H.le_ins (u := u) (b := g) (.cells [Value.int .i64 kind, .int .i64 id, .int .i64 k, .int .i64 bud, .int .i64 rid, .slice rv.a rv.n rv.c, .slice qs.a qs.n qs.c].toArray 26 (0, 0)) hg
  have hO : Ops (u.ins g (.cells [Value.int .i64 kind, .int .i64 id, .int .i64 k, .int .i64 bud, .int .i64 rid, .slice rv.a rv.n rv.c, .slice qs.a qs.n qs.c].toArray 26 (0, 0))) ⟨some ⟨g, 0, none⟩, 1, 1⟩ [⟨kind, id, k, bud, rid, rv, v, qs, q⟩] := by
    have m := OwnF.make (k := 7) (H.le.refl u) hg (cells := [Value.int .i64 kind, .int .i64 id, .int .i64 k, .int .i64 bud, .int .i64 rid, .slice rv.a rv.n rv.c, .slice qs.a qs.n qs.c].toArray) (e := 26) (n := 1) (by omega) rfl
    refine ⟨m.own.seg, fun o ho => ?_⟩
    simp at ho
    subst ho
    exact ⟨hv.mono l1, hq.mono l1⟩
  refine spec.theodolitelaw14_big (l := []) ⟨Rws.nil _, hO, fun r hr => (by cases hr), by show 0 ≤ 17592186044416; omega, fun o ho => ?_, by show 1 ≤ 17592186044416; omega⟩ ⟨fun _ => h _ l1, fun e => (by cases e)⟩ fun _ _ _ _ => ⟨fun e => (by cases e), fun _ => ?_⟩
  · simp at ho
    subst ho
    exact ⟨hv1, hq1⟩
  refine spec.ix_NilPut fun u2 l2 => spec.ix_NilDelete fun u3 l3 => spec.ix_NilSearch fun u4 l4 => ?_
  have hall := ((l1.trans l2).trans l3).trans l4
  refine spec.theodolitelaw14_awake (hTab.mono hall) fun u16 l16 => ⟨fun _ => ⟨fun _ => ⟨fun _ => ⟨fun _ => ⟨fun _ => ⟨fun _ => ?_, fun hne => absurd rfl hne⟩, fun hne => absurd rfl hne⟩, fun e => (by cases e)⟩, fun hne => absurd rfl hne⟩, fun e => (by cases e)⟩, fun e => (by cases e)⟩
  refine spec.theodolitekeep_Answer (AnsR.nil u16) (AnsR.nil u16) rfl ⟨fun _ => ?_, fun e => (by cases e)⟩
  refine spec.ix_NilLen ⟨fun _ => ?_, fun hne => absurd rfl hne⟩
  refine spec.ix_NilRows ⟨fun _ => spec.ix_NilSpec ?_, fun hne => absurd rfl hne⟩
  exact (show ∀ bb : Bool, bb = true → K bb u16 from fun bb hb => by rw [hb]; exact h u16 (hall.trans l16)) _ (decide_eq_true ⟨rfl, rfl, rfl, rfl⟩)

end Go.Proofs.YtbohcdjoglidhaaGreatDoor
