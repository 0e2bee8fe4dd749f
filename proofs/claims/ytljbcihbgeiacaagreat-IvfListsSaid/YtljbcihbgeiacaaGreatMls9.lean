/- Texts of mine, joined by merge.py: VcIv9, VcLawF, VcOwn2, VcTable, VcTable2, VcIxIv, VcLawT1, VcOpen2, VcLawT3, VcLawT4, VcLawT5, VcRef06, VcRef06b. -/
import Derived.Test.YtljbcihbgeiacaaGreatMls8
import Derived.Test.YtljbcihbgeiacaaGreatRows
import Derived.Deep.Strs
set_option maxRecDepth 100000

/- VcIv9 -/
namespace Go.Proofs.YtljbcihbgeiacaaGreat.Iv

theorem spec.Build {s : Sl} {l : List Rw} {dim a b seed : Int} {u : H} {K : Option Addr → Int → H → Prop} (hs : Rws u s l) (hbad : ixErr l dim a b ≠ 0 → K none (ixErr l dim a b) u)
    (hok : ixErr l dim a b = 0 → ∀ u' bt fp T, BuildRes u l dim a b seed u' bt fp T → K (some ⟨bt, 0, none⟩) 0 u') : C.ivf_Build s dim a b seed u K := by
  have bad : ∀ z, ixErr l dim a b = z → z ≠ 0 → K none z u := fun z e hz => by subst e; exact hbad hz
  apply vc.ivf_Build
  refine spec.flat_Check hs ⟨fun hne => bad _ (by unfold ixErr; rw [if_pos hne]) hne, fun he => ?_⟩
  have one : (a < 1 ∨ 64 < a ∨ b < 0 ∨ 20 < b) → K none 1 u := fun hc => bad 1 (by unfold ixErr; rw [if_neg (by simpa using he), if_pos hc]) (by decide)
  intro K2 h2
  refine ⟨fun h => one (.inl h), fun a1 => ⟨fun h => one (.inr (.inl h)), fun a2 => ⟨fun h => one (.inr (.inr (.inl h))), fun b1 => ⟨fun h => one (.inr (.inr (.inr h))), fun b2 => h2 _ _ _ ?_⟩⟩⟩⟩
  have hok := hok (by unfold ixErr; rw [if_neg (by simpa using he), if_neg (by omega)])
  clear bad one hbad h2 K2
  have hrok := rcheck_ok.1 he
  obtain ⟨dm1, dm2⟩ := hrok.dim
  have hl512 := hrok.len
  -- the tree's block, its map, the rows
  refine sem_mkmap fun m om hm hmap => ?_
  have hmu : (u.ins m om) m = some om := H.ins_same _ _ _
  have lm := H.le_ins (u := u) (b := m) om hm
  obtain ⟨u7, hu7⟩ : ∃ u7, u7 = u.ins m om := ⟨_, rfl⟩
  rw [← hu7] at hmap hmu lm ⊢
  intro n8 hn8
  have hnm : n8 ≠ m := fun e => by rw [e, hmu] at hn8; cases hn8
  have hnu : u n8 = none := lm.none hn8
  obtain ⟨o8, ho8⟩ : ∃ o8, o8 = (Obj.cells #[.int .i64 dim, .slice none 0 0, .slice none 0 0, .map (some m)] 98 (0, 0)) := ⟨_, rfl⟩
  have l8 := H.le_ins (u := u7) (b := n8) o8 hn8
  show C.flat_Own s (u7.ins n8 (Obj.cells #[.int .i64 dim, .slice none 0 0, .slice none 0 0, .map (some m)] 98 (0, 0))) _
  rw [← ho8]
  obtain ⟨u8, hu8⟩ : ∃ u8, u8 = u7.ins n8 o8 := ⟨_, rfl⟩
  have h88 : u8 n8 = some o8 := by rw [hu8]; exact H.ins_same _ _ _
  rw [← hu8] at l8 ⊢
  refine spec.flat_Own (hs.mono (lm.trans l8)) hrok.id (by omega) (fun r hr => by have := (hrok.v r hr).1; omega) fun s9 ls u10 hR hp hsrt => ?_
  have hRl : ls.length = l.length := by simpa using hp.length_eq
  have hmem : ∀ r ∈ ls, (1 ≤ r.id ∧ r.id ≤ 1000000000) ∧ (r.v.length : Int) = dim ∧ vok r.v := fun r hr => rok_all' hrok (hp.mem_iff.1 (List.mem_map_of_mem hr))
  have hnd : (ls.map (·.id)).Nodup := by rw [ids_pr', (hp.map (·.1)).nodup_iff, ← ids_pr']; exact hrok.nodup
  have l10 := hR.own.le
  have h9n := hR.rws.len
  -- what stays from here on
  obtain ⟨ub, hub⟩ : ∃ ub : H, ub = fun c => if c = n8 then none else u10 c := ⟨_, rfl⟩
  have ubN : ub n8 = none := by rw [hub]; exact if_pos rfl
  have ubO : ∀ {c}, c ≠ n8 → ub c = u10 c := fun {c} hc => by rw [hub]; exact if_neg hc
  have ubL : ub.le u10 := fun c o hc => by
    by_cases e : c = n8
    · rw [e, ubN] at hc; cases hc
    · rw [ubO e] at hc; exact hc
  have uub : u.le ub := fun c o hc => by
    have : c ≠ n8 := fun e => by rw [e, hnu] at hc; cases hc
    rw [ubO this]
    exact l10 _ _ (l8 _ _ (lm _ _ hc))
  have h8n10 : u10 n8 = some o8 := l10 _ _ h88
  have hfr8 : ∀ {x : Sl}, (∀ g, x.blk = some g → u8 g = none) → x.blk ≠ some n8 := fun hx e => by have := hx n8 e; rw [h88] at this; cases this
  have seg9 : Seg ub s9 2 (ls.flatMap encR) := Seg.else hR.own.own.seg fun g o hg ho => by
    rw [ubO (fun e => hfr8 hR.own.fresh (by rw [hg, e]))]; exact ho
  have rowI : ∀ r ∈ ls, Ints ub r.s r.v := fun r hr => Seg.else (hR.inner r hr).ints fun g o hg ho => by
    rw [ubO (fun e => hfr8 (hR.inner r hr).fresh (by rw [hg, e]))]; exact ho
  have mapB : MapAt ub m [] := hmap.else fun o ho => by rw [ubO (Ne.symm hnm)]; exact l10 _ _ (l8 _ _ ho)
  have rws9 : Rws ub s9 ls := ⟨seg9, rowI⟩
  -- the vectors
  refine ⟨fun s13 x w => 0 ≤ x ∧ x ≤ s9.n ∧ ub.le w ∧ w n8 = some o8 ∧ OwnF u10 w 41 1 s13 (((ls.take x.toNat).map fun r => (r.s, r.v)).flatMap fun c => encS c.1), fun _ x _ => ((s9.n : Int) - x).toNat,
    ⟨by omega, by omega, ubL, h8n10, by simpa using OwnF.nil (H.le.refl u10) 41 1⟩, ?_⟩
  rintro s13 x w ⟨x0, x1, hbw, h8w, ho13⟩
  have hn13 : s13.n = (ls.take x.toNat).length := by have h := flat_n encS_len (by decide) ho13.own.seg; rw [List.length_map] at h; exact h
  rw [List.length_take] at hn13
  refine ⟨fun hx => ?_, fun hx => ?_⟩
  · obtain ⟨p, hpp, r, hr, c0, c1, _⟩ := (rws9.mono hbw).at x0 hx
    refine ⟨p, hpp, ⟨x0, hx⟩, _, c0, _, c1, sem_push' tVecs (build_vec1 r.s) (by decide) rfl (by simp [Value.oneCell']) ho13 (by show s13.n < _; omega) (by show (s13.n + 1) * _ ≤ _; omega) fun s21 u22 ho hn21 hel hbl _ => ⟨⟨by omega, by omega⟩, ⟨by omega, by omega, fun c o hc => hel c o (hbw c o hc) fun e => ?_, hel _ _ h8w fun e => ?_, ?_⟩, by dsimp only; omega⟩⟩
    · have := ho13.fresh c e; rw [ubL c o hc] at this; cases this
    · have := ho13.fresh n8 e; rw [h8n10] at this; cases this
    · have e : ls.take (x + 1).toNat = ls.take x.toNat ++ [r] := by rw [show (x + 1).toNat = x.toNat + 1 by omega, List.take_add_one, hr]; rfl
      rw [e, List.map_append, List.flatMap_append]
      exact ho
  rw [List.take_of_length_le (by omega)] at ho13
  have hn13' : s13.n = ls.length := by omega
  clear x0 x1 hx hn13
  have vcs13 : ∀ {z : H}, w.le z → VcsAt z s13 (ls.map fun r => (r.s, r.v)) := fun hz => ⟨ho13.own.seg.mono hz, fun c hc => by
    obtain ⟨r, hr, rfl⟩ := List.mem_map.1 hc
    exact (rowI r hr).mono (hbw.trans hz)⟩
  -- the centre of no rows
  refine sem_make_ints (by omega) (by omega) fun s23 u24 ho23 hn23 => sem_build (build_vec1 s23) fun g25 hg25 => ?_
  have l25 := H.le_ins (u := u24) (b := g25) (.cells [Value.slice s23.a s23.n s23.c].toArray 41 (0, 0)) hg25
  have ho25 : OwnF u24 (u24.ins g25 (.cells [Value.slice s23.a s23.n s23.c].toArray 41 (0, 0))) 41 1 ⟨some ⟨g25, 0, none⟩, 1, 1⟩ [Value.slice s23.a s23.n s23.c] := by
    have := OwnF.make (k := 1) (H.le.refl u24) hg25 (cells := [Value.slice s23.a s23.n s23.c].toArray) (e := 41) (n := 1) (by omega) (by simp)
    simpa using this
  obtain ⟨u26, hu26⟩ : ∃ u26, u26 = u24.ins g25 (.cells [Value.slice s23.a s23.n s23.c].toArray 41 (0, 0)) := ⟨_, rfl⟩
  rw [← hu26] at l25 ho25 ⊢
  obtain ⟨s25, hs25⟩ : ∃ s25 : Sl, s25 = ⟨some ⟨g25, 0, none⟩, 1, 1⟩ := ⟨_, rfl⟩
  rw [← hs25] at ho25 ⊢
  have w26 : w.le u26 := ho23.le.trans l25
  have zero : VcsO w u26 s25 [(s23, List.replicate dim.toNat 0)] := ⟨by simpa [encS] using ho25.weaken ho23.le, fun c hc => by rw [List.mem_singleton.1 hc]; exact ho23.mono l25, fun c hc => by rw [List.mem_singleton.1 hc]; exact (OwnF.far ho23 (H.le.refl _) ho25).symm, List.pairwise_singleton _ _⟩
  have nw : ∀ {x : Sl}, (∀ g, x.blk = some g → w g = none) → x.blk ≠ some n8 := fun hx e => by have := hx n8 e; rw [h8w] at this; cases this
  have h8u26 := w26 _ _ h8w
  rw [ho8] at h8u26
  refine (st_tree (a := ⟨none, 0, 0⟩) (b := ⟨none, 0, 0⟩) (s := s25) h8u26).1 ?_
  obtain ⟨oc, hoc⟩ : ∃ oc : Sl → Obj, oc = fun z => (Obj.cells #[.int .i64 dim, .slice z.a z.n z.c, .slice none 0 0, .map (some m)] 98 (0, 0)) := ⟨_, rfl⟩
  obtain ⟨u27, hu27⟩ : ∃ u27, u27 = u26.ins n8 (oc s25) := ⟨_, rfl⟩
  have hu27' : u27 = u26.ins n8 (Obj.cells #[.int .i64 dim, .slice s25.a s25.n s25.c, .slice none 0 0, .map (some m)] 98 (0, 0)) := by rw [hu27, hoc]
  rw [← hu27']
  have ub27 : ub.le u27 := fun c o hc => by
    rw [hu27, H.ins_other _ _ (fun e => by rw [e, ubN] at hc; cases hc)]
    exact w26 _ _ (hbw _ _ hc)
  have h8u27 : u27 n8 = some (oc s25) := by rw [hu27]; exact H.ins_same _ _ _
  -- the list of rows, sorted
  obtain ⟨P, hP⟩ : ∃ P : List (Int × List Int), P = ls.map Rw.pr := ⟨_, rfl⟩
  have hPs : P.Pairwise fun x y => x.1 < y.1 := by
    rw [hP, List.pairwise_map]
    rw [List.nodup_iff_pairwise_ne, List.pairwise_map] at hnd
    refine (hsrt.and hnd).imp fun {x y} hxy => ?_
    have h1 := hxy.1
    have h2 := hxy.2
    show x.id < y.id
    omega
  have hPv : P.map (·.2) = ls.map (·.v) := by rw [hP, List.map_map]; rfl
  obtain ⟨cv, hcv⟩ : ∃ cv, cv = centI seed a b dim.toNat (P.map (·.2)) := ⟨_, rfl⟩
  have hcok := centI_ok (seed := seed) (a := a) (b := b) (d := dim.toNat) (vs := P.map (·.2)) (fun v hv => by
    rw [hPv] at hv
    obtain ⟨r, hr, rfl⟩ := List.mem_map.1 hv
    obtain ⟨_, h1, h2⟩ := hmem r hr
    exact ⟨by omega, h2⟩) (by omega) (by omega)
  rw [← hcv] at hcok
  intro K28 h28
  -- behind the centres
  have main : ∀ {s32 : Sl} {cs : List (Sl × List Int)} {u31 : H} {p3 : Option Addr} {x4 : Int}, ub.le u31 → u31 n8 = some (oc s32) → VcsO ub u31 s32 cs → s32.blk ≠ some n8 → (∀ c ∈ cs, c.1.blk ≠ some n8) → cs.map (·.2) = cv → K28 p3 x4 u31 := by
    intro s32 cs u31 p3 x4 hb31 h831 hcs hc8 hcc8 hcsv
    have hcl : cs.length = cv.length := by rw [← hcsv, List.length_map]
    have hcn : s32.n = cs.length := hcs.len
    rw [hoc] at h831
    refine h28 _ _ _ ⟨s32, H.cell?_of h831 1, sem_make tLists (by omega) (Int.le_refl _) (by omega) (by omega) fun g33 hg33 => ?_⟩
    have hmade : (madeCells [Value.slice none 0 0].toArray (cs.length * 1)).toList = (List.replicate cs.length ((⟨none, 0, 0⟩ : Sl), ([] : List Rw))).flatMap fun c => encS c.1 := made_flat (enc := fun c : Sl × List Rw => encS c.1) encSL_len (by decide) (⟨none, 0, 0⟩, []) cs.length
    have hsz : (madeCells [Value.slice none 0 0].toArray (cs.length * 1)).size = cs.length * 1 := by
      have := congrArg List.length hmade
      rw [Array.length_toList, flat_len encSL_len] at this
      simpa using this
    have ho33 := OwnF.make (k := 1) (H.le.refl u31) hg33 (cells := madeCells [Value.slice none 0 0].toArray (cs.length * 1)) (e := 22) (n := cs.length) (by omega) hsz
    rw [hmade] at ho33
    rw [show ((s32.n : Nat) : Int).toNat = cs.length by omega]
    obtain ⟨s33, hs33⟩ : ∃ s33 : Sl, s33 = ⟨some ⟨g33, 0, none⟩, cs.length, cs.length⟩ := ⟨_, rfl⟩
    rw [← hs33] at ho33 ⊢
    obtain ⟨u34, hu34⟩ : ∃ u34, u34 = u31.ins g33 (.cells (madeCells [Value.slice none 0 0].toArray (cs.length * 1)) 22 (0, 0)) := ⟨_, rfl⟩
    rw [← hu34] at ho33 ⊢
    have l34 := ho33.le
    refine (st_tree (a := s32) (b := ⟨none, 0, 0⟩) (s := s33) (l34 _ _ h831)).2 ?_
    obtain ⟨T0, hT0⟩ : ∃ T0 : Tr, T0 = ⟨dim, s32, cs, s33, List.replicate cs.length (⟨none, 0, 0⟩, []), m, []⟩ := ⟨_, rfl⟩
    obtain ⟨u35, hu35⟩ : ∃ u35, u35 = u34.ins n8 (.cells (treeC T0).toArray 98 (0, 0)) := ⟨_, rfl⟩
    have hu35' : u35 = u34.ins n8 (Obj.cells #[.int .i64 dim, .slice s32.a s32.n s32.c, .slice s33.a s33.n s33.c, .map (some m)] 98 (0, 0)) := by rw [hu35, hT0]; rfl
    rw [← hu35']
    have n833 : s33.blk ≠ some n8 := fun e => by have := ho33.fresh n8 e; rw [h831] at this; cases this
    have ub35 : ub.le u35 := fun c o hc => by
      rw [hu35, H.ins_other _ _ (fun e => by rw [e, ubN] at hc; cases hc)]
      exact l34 _ _ (hb31 _ _ hc)
    have hcs35 : VcsO ub u35 s32 cs := by rw [hu35]; exact vcso_insOut (hcs.mono l34) ubN hc8 hcc8 _
    have ho35 : OwnF ub u35 22 1 s33 ((List.replicate cs.length ((⟨none, 0, 0⟩ : Sl), ([] : List Rw))).flatMap fun c => encS c.1) := by rw [hu35]; exact (ho33.weaken hb31).insOut ubN n833 _
    have known31 : ∀ {e k : Nat} {x : Sl} {xs : List Value}, OwnF ub u31 e k x xs → Far x s33 := fun hx => OwnF.far hx (H.le.refl u31) ho33
    -- its blocks
    let fp0 : Nat → Option Tg := fun c => open Classical in if c = n8 then some .tree else if c = m then some .map else if s32.blk = some c then some .carr else if s33.blk = some c then some .larr else if ∃ z ∈ cs, z.1.blk = some c then some .cvec else if ∃ r ∈ ls, r.s.blk = some c then some .vec else none
    have mub : ub m ≠ none := by obtain ⟨es, cl, hx, _⟩ := mapB; rw [hx]; simp
    have fr_m : ∀ {x : Sl}, (∀ g, x.blk = some g → ub g = none) → x.blk ≠ some m := fun hx e => mub (hx m e)
    have rk : ∀ r ∈ ls, ∀ c, r.s.blk = some c → ub c ≠ none ∧ c ≠ n8 ∧ u8 c = none := fun r hr c hc => by
      have h1 := (hR.inner r hr).fresh c hc
      have h2 : c ≠ n8 := fun e => by rw [e, h88] at h1; cases h1
      exact ⟨by rw [ubO h2]; exact own_known (hR.inner r hr) hc, h2, h1⟩
    have t8 : fp0 n8 = some .tree := if_pos rfl
    have tm : fp0 m = some .map := by
      show (if m = n8 then _ else _) = _
      rw [if_neg (Ne.symm hnm), if_pos rfl]
    have tc : ∀ g, s32.blk = some g → fp0 g = some .carr := fun g hg => by
      show (if g = n8 then _ else _) = _
      rw [if_neg (fun e => hc8 (by rw [hg, e])), if_neg (fun e => fr_m hcs.own.fresh (by rw [hg, e])), if_pos hg]
    have tl : ∀ g, s33.blk = some g → fp0 g = some .larr := fun g hg => by
      show (if g = n8 then _ else _) = _
      rw [if_neg (fun e => n833 (by rw [hg, e])), if_neg (fun e => fr_m ho35.fresh (by rw [hg, e])), if_neg (fun e => known31 hcs.own g e hg), if_pos hg]
    have tv : ∀ z ∈ cs, ∀ g, z.1.blk = some g → fp0 g = some .cvec := fun z hz g hg => by
      show (if g = n8 then _ else _) = _
      rw [if_neg (fun e => hcc8 z hz (by rw [hg, e])), if_neg (fun e => fr_m (hcs.inner z hz).fresh (by rw [hg, e])), if_neg (fun e => hcs.far z hz g e hg), if_neg (fun e => known31 (hcs.inner z hz) g hg e), if_pos ⟨z, hz, hg⟩]
    have tr : ∀ r ∈ ls, ∀ g, r.s.blk = some g → fp0 g = some .vec := fun r hr g hg => by
      obtain ⟨k1, k2, k3⟩ := rk r hr g hg
      show (if g = n8 then _ else _) = _
      rw [if_neg k2, if_neg (fun e => by rw [e, hu8, H.ins_other _ _ (Ne.symm hnm), hmu] at k3; cases k3), if_neg (fun e => k1 (hcs.own.fresh g e)), if_neg (fun e => k1 (ho35.fresh g e)), if_neg (fun ⟨z, hz, e⟩ => k1 ((hcs.inner z hz).fresh g e)), if_pos ⟨r, hr, hg⟩]
    have t9 : ∀ g, s9.blk = some g → fp0 g = none := fun g hg => by
      have k3 := hR.own.fresh g hg
      have k2 : g ≠ n8 := fun e => by rw [e, h88] at k3; cases k3
      have k1 : ub g ≠ none := by rw [ubO k2]; exact own_known hR.own hg
      show (if g = n8 then _ else _) = _
      rw [if_neg k2, if_neg (fun e => by rw [e, hu8, H.ins_other _ _ (Ne.symm hnm), hmu] at k3; cases k3), if_neg (fun e => k1 (hcs.own.fresh g e)), if_neg (fun e => k1 (ho35.fresh g e)), if_neg (fun ⟨z, hz, e⟩ => k1 ((hcs.inner z hz).fresh g e)), if_neg (fun ⟨r, hr, e⟩ => hR.far r hr g hg e)]
    have k9 : ∀ g, s9.blk = some g → u35 g ≠ none := fun g hg => by
      have k3 := hR.own.fresh g hg
      have k2 : g ≠ n8 := fun e => by rw [e, h88] at k3; cases k3
      have k1 : ub g ≠ none := by rw [ubO k2]; exact own_known hR.own hg
      obtain ⟨o, ho⟩ := Option.ne_none_iff_exists'.1 k1
      rw [ub35 _ _ ho]; simp
    have split : ∀ c, fp0 c ≠ none → c = n8 ∨ c = m ∨ s32.blk = some c ∨ s33.blk = some c ∨ (∃ z ∈ cs, z.1.blk = some c) ∨ ∃ r ∈ ls, r.s.blk = some c := fun c hc => Classical.byContradiction fun hn => hc (by
      simp only [not_or] at hn
      show (if c = n8 then _ else _) = _
      rw [if_neg hn.1, if_neg hn.2.1, if_neg hn.2.2.1, if_neg hn.2.2.2.1, if_neg hn.2.2.2.2.1, if_neg hn.2.2.2.2.2])
    have in0 : In u u35 fp0 n8 T0 := by
      refine ⟨?_, uub.trans ub35, fun c hc => ?_, fun c hc => ?_⟩
      · subst hT0
        refine ⟨by rw [hu35]; exact H.ins_same _ _ _, t8, hcs35.own.own.seg, tc, fun i c hic => ⟨(hcs35.inner c (List.mem_of_getElem? hic)).ints, tv c (List.mem_of_getElem? hic)⟩, ho35.own, tl, fun i y hy => ?_, mapB.mono ub35, tm⟩
        have : y = (⟨none, 0, 0⟩, []) := (List.mem_replicate.1 (List.mem_of_getElem? hy)).2
        subst this
        exact ⟨⟨⟨rfl, Nat.le_refl _, by decide, .inl rfl⟩, .inr rfl⟩, fun g hg => by simp [Sl.blk] at hg, fun r hr => by cases hr⟩
      · rcases split c hc with rfl | rfl | h1 | h1 | ⟨z, hz, h1⟩ | ⟨r, hr, h1⟩
        · exact hnu
        · exact hm
        · exact uub.none (hcs.own.fresh c h1)
        · exact uub.none (ho35.fresh c h1)
        · exact uub.none ((hcs.inner z hz).fresh c h1)
        · exact (lm.trans l8).none (rk r hr c h1).2.2
      · rcases split c hc with rfl | rfl | h1 | h1 | ⟨z, hz, h1⟩ | ⟨r, hr, h1⟩
        · rw [hu35, H.ins_same]; simp
        · obtain ⟨o, ho⟩ := Option.ne_none_iff_exists'.1 mub
          rw [ub35 _ _ ho]; simp
        · exact own_known hcs35.own h1
        · exact own_known ho35 h1
        · exact own_known (hcs35.inner z hz) h1
        · obtain ⟨o, ho⟩ := Option.ne_none_iff_exists'.1 (rk r hr c h1).1
          rw [ub35 _ _ ho]; simp
    have ok0 : TOk T0 := by
      subst hT0
      have hfl : (List.replicate cs.length ((⟨none, 0, 0⟩ : Sl), ([] : List Rw))).flatMap (·.2) = [] := by
        rw [List.flatMap_eq_nil_iff]
        intro x hx
        rw [(List.mem_replicate.1 hx).2]
      refine ⟨hrok.dim, ⟨by simp, by show 0 < cs.length; omega, by show cs.length ≤ 64; omega⟩, fun c hc => ?_, fun y hy r hr => ?_, fun y hy r hr => ?_, by show (List.map _ (List.flatMap _ (List.replicate _ _))).Nodup; rw [hfl]; exact List.nodup_nil, fun x i => ⟨fun h => (by cases h), fun ⟨y, hy, hx⟩ => ?_⟩, by show 0 = (List.flatMap _ (List.replicate _ _)).length; rw [hfl]; rfl, by show 0 ≤ 512; omega, fun i y hy r hr => ?_⟩
      · have : c.2 ∈ cv := by rw [← hcsv]; exact List.mem_map_of_mem hc
        obtain ⟨h1, h2⟩ := hcok.1 _ this
        exact ⟨by show (c.2.length : Int) = dim; omega, h2⟩
      · rw [(List.mem_replicate.1 hy).2] at hr; cases hr
      · rw [(List.mem_replicate.1 hy).2] at hr; cases hr
      · rw [(List.mem_replicate.1 (List.mem_of_getElem? hy)).2] at hx; cases hx
      · rw [(List.mem_replicate.1 (List.mem_of_getElem? hy)).2] at hr; cases hr
    have rows0 : ixRows T0 = [] := by
      subst hT0
      unfold ixRows
      have hfl : (List.replicate cs.length ((⟨none, 0, 0⟩ : Sl), ([] : List Rw))).flatMap (·.2) = [] := by
        rw [List.flatMap_eq_nil_iff]
        intro x hx
        rw [(List.mem_replicate.1 hx).2]
      show (List.flatMap _ (List.replicate _ _)).map _ = []
      rw [hfl]; rfl
    -- row by row
    refine ⟨fun x w => 0 ≤ x ∧ x ≤ s9.n ∧ ∃ fp T, In u w fp n8 T ∧ TOk T ∧ T.dim = dim ∧ T.cs = cs ∧ (ixRows T).Perm ((ls.take x.toNat).map Rw.pr) ∧ (∀ y, y ∈ T.w.map (·.1) ↔ y ∈ (ls.take x.toNat).map (·.id)) ∧ T.w.length = x.toNat ∧ (∀ r ∈ ls, Ints w r.s r.v ∧ ∀ g, r.s.blk = some g → fp g = some .vec) ∧ Rws w s9 ls ∧ ∀ g, s9.blk = some g → fp g = none ∧ w g ≠ none,
      fun x _ => ((s9.n : Int) - x).toNat, ⟨by omega, by omega, fp0, T0, in0, ok0, by rw [hT0], by rw [hT0], by rw [rows0]; exact .refl _, fun y => by rw [hT0]; simp, by rw [hT0]; rfl, fun r hr => ⟨(rowI r hr).mono ub35, tr r hr⟩, rws9.mono ub35, fun g hg => ⟨t9 g hg, k9 g hg⟩⟩, ?_⟩
    rintro x w ⟨x0, x1, fp, T, hI, hTk, hTd, hTc, hrows, hkeys, hwl, hvecs, hrw, h9f⟩
    refine ⟨fun hx => ?_, fun hx => ?_⟩
    · obtain ⟨p, hpp, r, hr, e0, e1, _⟩ := hrw.at x0 hx
      have hrm := List.mem_of_getElem? hr
      obtain ⟨r1, r2, r3⟩ := hmem r hrm
      obtain ⟨v1, v2⟩ := hvecs r hrm
      have htake : ls.take (x + 1).toNat = ls.take x.toNat ++ [r] := by rw [show (x + 1).toNat = x.toNat + 1 by omega, List.take_add_one, hr]; rfl
      have hnin : r.id ∉ T.w.map (·.1) := fun hin => by
        have h1 := (hkeys r.id).1 hin
        have h2 : ((ls.take (x.toNat + 1)).map (·.id)).Nodup := hnd.sublist ((List.take_sublist _ _).map _)
        rw [show x.toNat + 1 = (x + 1).toNat by omega, htake, List.map_append, List.nodup_append] at h2
        exact h2.2.2 _ h1 _ (by simp) rfl
      refine ⟨p, hpp, ⟨x0, hx⟩, _, e0, _, e1, spec.lay hI hTk hnin r1 v1 v2 ⟨by rw [hTd]; exact r2, r3⟩ (by omega) fun u43 fp' T' hres => ⟨⟨by omega, by omega⟩, ⟨by omega, by omega, fp', T', hres.is, hres.ok, hres.dim.trans hTd, hres.cs.trans hTc, ?_, fun y => ?_, by rw [hres.wlen]; omega, fun r' hr' => ?_, ?_, fun g hg => ?_⟩, by dsimp only; omega⟩⟩
      · rw [htake, List.map_append]
        exact hres.rows.trans ((List.Perm.cons _ hrows).trans (List.perm_append_singleton _ _).symm)
      · rw [hres.w, hkeys, htake, List.map_append]
        simp
      · obtain ⟨w1, w2⟩ := hvecs r' hr'
        exact ⟨Seg.else w1 fun g o hg ho => hres.vecs g o ho (w2 g hg), fun g hg => hres.tags g (w2 g hg)⟩
      · refine ⟨Seg.else hrw.1 fun g o hg ho => hres.turn.keep g o ho (h9f g hg).1, fun r' hr' => ?_⟩
        obtain ⟨w1, w2⟩ := hvecs r' hr'
        exact Seg.else w1 fun g o hg ho => hres.vecs g o ho (w2 g hg)
      · obtain ⟨f1, f2⟩ := h9f g hg
        obtain ⟨o, ho⟩ := Option.ne_none_iff_exists'.1 f2
        exact ⟨hres.turn.off ho f1, by rw [hres.turn.keep g o ho f1]; simp⟩
    · rw [List.take_of_length_le (by omega)] at hrows
      refine hok w n8 fp T ⟨hI, hTk, hrows.trans hp, hTd, P, by rw [hP]; exact hp, hPs, by rw [hTc, hcsv, hcv]⟩
  refine ⟨fun hpos => ?_, fun hnp => ?_⟩
  · have hpl : 0 < ls.length := by omega
    have v27 : VcsAt u27 s13 (ls.map fun r => (r.s, r.v)) := ⟨Seg.else ho13.own.seg fun g o hg ho => by
      have : g ≠ n8 := fun e => by have := ho13.fresh g hg; rw [e, h8n10] at this; cases this
      rw [hu27, H.ins_other _ _ this]
      exact w26 _ _ ho, fun c hc => by
      obtain ⟨r, hr, rfl⟩ := List.mem_map.1 hc
      exact (rowI r hr).mono ub27⟩
    have hmm : (ls.map fun r => (r.s, r.v)).map (·.2) = P.map (·.2) := by rw [hPv, List.map_map]; rfl
    have hPl : (P.map (·.2)).length = ls.length := by rw [hPv, List.length_map]
    refine spec.kmeans_Train (d := dim.toNat) v27 (fun c hc => ?_) (by omega) (by simp; omega) (by split <;> omega) (by simp only [List.length_map]; split <;> omega) (by omega) fun s44 u46 cs hcs hcsv => ⟨fun hx => absurd rfl hx, fun _ => ?_⟩
    · obtain ⟨r, hr, rfl⟩ := List.mem_map.1 hc
      obtain ⟨_, h1, h2⟩ := hmem r hr
      exact ⟨by show r.v.length = _; omega, h2⟩
    have h846 := hcs.own.le _ _ h8u27
    have nc : ∀ {x : Sl}, (∀ g, x.blk = some g → u27 g = none) → x.blk ≠ some n8 := fun hx e => by have := hx n8 e; rw [h8u27] at this; cases this
    have h846' := h846
    rw [hoc] at h846'
    refine (st_tree (a := s25) (b := ⟨none, 0, 0⟩) (s := s44) h846').1 ?_
    obtain ⟨u47, hu47⟩ : ∃ u47, u47 = u46.ins n8 (oc s44) := ⟨_, rfl⟩
    have hu47' : u47 = u46.ins n8 (Obj.cells #[.int .i64 dim, .slice s44.a s44.n s44.c, .slice none 0 0, .map (some m)] 98 (0, 0)) := by rw [hu47, hoc]
    rw [← hu47']
    refine main (fun c o hc => ?_) (by rw [hu47]; exact H.ins_same _ _ _) (by rw [hu47]; exact vcso_insOut (hcs.weaken ub27) ubN (nc hcs.own.fresh) (fun c hc => nc (hcs.inner c hc).fresh) _) (nc hcs.own.fresh) (fun c hc => nc (hcs.inner c hc).fresh) ?_
    · rw [hu47, H.ins_other _ _ (fun e => by rw [e, ubN] at hc; cases hc)]
      exact hcs.own.le _ _ (ub27 _ _ hc)
    · rw [hcsv, hcv, hmm]
      have hne : P.map (·.2) ≠ [] := fun e => by rw [e] at hPl; simp at hPl; omega
      unfold centI
      rw [if_neg hne, hPl, hn13']
  · have hl0 : ls = [] := List.eq_nil_of_length_eq_zero (by omega)
    refine main ub27 h8u27 (by rw [hu27]; exact vcso_insOut (zero.weaken hbw) ubN (nw zero.own.fresh) (fun c hc => nw (zero.inner c hc).fresh) _) (nw zero.own.fresh) (fun c hc => nw (zero.inner c hc).fresh) ?_
    rw [hcv, hPv, hl0]
    rfl

end Go.Proofs.YtljbcihbgeiacaaGreat.Iv

/- VcLawF -/
namespace Go.Proofs.YtljbcihbgeiacaaGreat

theorem spec.theodoliteref05_Searched {t : Sl} {q : List Int} {d k b : Int} {u : H} {K : Int → H → Prop} (ht : Ints u t q) (h : K (if vcheck q d ≠ 0 then vcheck q d else if k < 1 ∨ 64 < k ∨ b < 0 ∨ 1000000 < b then 1 else 0) u) : C.theodoliteref05_Searched t d k b u K := by
  apply vc.theodoliteref05_Searched
  refine spec.theodoliteref03_Check ht ⟨fun hne => by rw [if_pos hne] at h; exact h, fun he => ?_⟩
  rw [if_neg (by simpa using he)] at h
  by_cases hbad : k < 1 ∨ 64 < k ∨ b < 0 ∨ 1000000 < b
  · rw [if_pos hbad] at h
    exact ⟨fun _ => h, fun k1 => ⟨fun _ => h, fun k2 => ⟨fun _ => h, fun b1 => ⟨fun _ => h, fun b2 => by omega⟩⟩⟩⟩
  · rw [if_neg hbad] at h
    exact ⟨fun k1 => by omega, fun _ => ⟨fun k2 => by omega, fun _ => ⟨fun b1 => by omega, fun _ => ⟨fun b2 => by omega, fun _ => h⟩⟩⟩⟩

theorem AnsR.nil (u : H) : AnsR u ⟨none, 0, 0⟩ ⟨none, 0, 0⟩ ⟨none, 0, 0⟩ [] [] [] :=
  ⟨(OwnF.nil (H.le.refl u) 0 3).own.seg, Ints.nil u, (OwnF.nil (H.le.refl u) 0 6).own.seg, fun r hr => by cases hr⟩

end Go.Proofs.YtljbcihbgeiacaaGreat

/- VcOwn2 -/
namespace Go.Proofs.YtljbcihbgeiacaaGreat

def rowsS (s : Sl) (ls : List Rw) : List Sl := s :: ls.map (·.s)

theorem spec.theodolitekeep_SpoilRows {s : Sl} {ls : List Rw} {u0 u : H} {K : H → Prop} (h : RowsO u0 u s ls) (hK : ∀ u', u0.le u' → Keep (rowsS s ls) u u' → K u') : C.theodolitekeep_SpoilRows s u K := by
  have hsn := h.rws.len
  have hsx := h.rws.max
  apply vc.theodolitekeep_SpoilRows
  have hfr : ∀ g, s.blk = some g → u0 g = none := h.own.fresh
  refine ⟨fun i w => 0 ≤ i ∧ i ≤ ls.length ∧ OwnF u0 w 43 2 s ((List.replicate i.toNat (⟨0, ⟨none, 0, 0⟩, []⟩ : Rw) ++ ls.drop i.toNat).flatMap encR) ∧ (∀ r ∈ ls.drop i.toNat, OwnF u0 w 3 1 r.s (r.v.flatMap encI)) ∧ Keep (rowsS s ls) u w,
    fun i _ => ls.length - i.toNat, ⟨by omega, by omega, by simpa using h.own, by simpa using h.inner, Keep.refl _ _⟩, ?_⟩
  rintro i w ⟨i0, i1, ho, hin, hkp⟩
  refine ⟨fun hil => ?_, fun hig => hK w ho.le hkp⟩
  have hi : i.toNat < ls.length := by omega
  obtain ⟨r, hr⟩ : ∃ r, ls[i.toNat]? = some r := ⟨_, List.getElem?_eq_getElem hi⟩
  have hrm : r ∈ ls := List.mem_of_getElem? hr
  have hdrop : ls.drop i.toNat = r :: ls.drop (i.toNat + 1) := by
    rw [List.drop_eq_getElem_cons hi]
    rw [List.getElem?_eq_getElem hi] at hr
    rw [Option.some.inj hr]
  have hget : (List.replicate i.toNat (⟨0, ⟨none, 0, 0⟩, []⟩ : Rw) ++ ls.drop i.toNat)[i.toNat]? = some r := by
    rw [hdrop]
    have := get_mid (List.replicate i.toNat (⟨0, ⟨none, 0, 0⟩, []⟩ : Rw)) r (ls.drop (i.toNat + 1))
    simp
  have hor : OwnF u0 w 3 1 r.s (r.v.flatMap encI) := hin r (by rw [hdrop]; exact .head _)
  have hsr : ∀ g, s.blk = some g → r.s.blk ≠ some g := h.far r hrm
  have rowcell : ∀ {w2 : H}, OwnF u0 w2 43 2 s ((List.replicate i.toNat (⟨0, ⟨none, 0, 0⟩, []⟩ : Rw) ++ ls.drop i.toNat).flatMap encR) → ∃ p, s.a = some p ∧ w2.cell? ((p.add (i.toNat * 2)).add 1) = some (.slice r.s.a r.s.n r.s.c) := fun hw2 => by
    obtain ⟨p, hp, hc⟩ := Seg.elem encR_len (by decide) hw2.own.seg hget
    exact ⟨p, hp, hc 1 _ rfl⟩
  refine ⟨fun k w2 => 0 ≤ k ∧ k ≤ r.v.length ∧ OwnF u0 w2 43 2 s ((List.replicate i.toNat (⟨0, ⟨none, 0, 0⟩, []⟩ : Rw) ++ ls.drop i.toNat).flatMap encR) ∧ (∀ r' ∈ ls.drop (i.toNat + 1), OwnF u0 w2 3 1 r'.s (r'.v.flatMap encI)) ∧
      (∃ v' : List Int, v'.length = r.v.length ∧ OwnF u0 w2 3 1 r.s (v'.flatMap encI)) ∧ Keep (rowsS s ls) u w2, fun k _ => r.v.length - k.toNat,
    ⟨by omega, by omega, ho, fun r' hr' => hin r' (by rw [hdrop]; exact .tail _ hr'), ⟨r.v, rfl, hor⟩, hkp⟩, ?_⟩
  rintro k w2 ⟨k0, k1, ho2, hin2, ⟨v', hv', hov⟩, hkp2⟩
  obtain ⟨p, hp, hc⟩ := rowcell ho2
  have hvn := hov.ints.len
  have hvx := hov.ints.max
  refine ⟨p, hp, ⟨i0, hil⟩, r.s, hc, fun hkl => ?_, fun hkg => ?_⟩
  · obtain ⟨q, hq, hcq⟩ := hov.ints.at k0 hkl
    refine ⟨p, hp, ⟨i0, hil⟩, p, hp, ⟨i0, hil⟩, r.s, hc, r.s, hc, q, hq, ⟨k0, hkl⟩, _, hcq, q, hq, ⟨k0, hkl⟩, ?_⟩
    refine OwnF.store (enc := encI) encI_len hov (by decide) (i := k.toNat) (by omega) (y := bits .xor .i64 (v'.getD k.toNat 0) 60) (encI_one _) hq fun w3 ho3 he3 _ => ⟨⟨by omega, by omega⟩, ⟨by omega, by omega, ?_, fun r' hr' => ?_, ⟨_, by simpa using hv', ho3⟩, hkp2.trans (he3.keep (by simp [rowsS]; exact .inr ⟨r, hrm, rfl⟩))⟩, by dsimp only; omega⟩
    · exact OwnF.else (e := 0) ho2 he3 (fun g hg => hov.fresh g hg) fun g hg e => hsr g e hg
    · have hmem : r' ∈ ls := List.mem_of_mem_drop hr'
      refine OwnF.else (e := 0) (hin2 r' hr') he3 (fun g hg => hov.fresh g hg) fun g hg => ?_
      have hpw := h.apart
      rw [← List.take_append_drop i.toNat ls, hdrop] at hpw
      have h2 := (List.pairwise_cons.1 (List.pairwise_append.1 hpw).2.1).1 r' hr'
      exact h2 g hg
  · refine ⟨p, hp, ⟨i0, hil⟩, ?_⟩
    refine OwnF.store (enc := encR) encR_len ho2 (by decide) (i := i.toNat) (by simp; omega) (y := ⟨0, ⟨none, 0, 0⟩, []⟩) (encR_one _) hp fun w3 ho3 he3 _ => ⟨⟨by omega, by omega⟩, ⟨by omega, by omega, ?_, fun r' hr' => ?_, hkp2.trans (he3.keep (by simp [rowsS]))⟩, by dsimp only; omega⟩
    · have hset : (List.replicate i.toNat (⟨0, ⟨none, 0, 0⟩, []⟩ : Rw) ++ ls.drop i.toNat).set i.toNat ⟨0, ⟨none, 0, 0⟩, []⟩ = List.replicate (i + 1).toNat (⟨0, ⟨none, 0, 0⟩, []⟩ : Rw) ++ ls.drop (i + 1).toNat := by
        rw [hdrop]
        have := set_mid (List.replicate i.toNat (⟨0, ⟨none, 0, 0⟩, []⟩ : Rw)) r ⟨0, ⟨none, 0, 0⟩, []⟩ (ls.drop (i.toNat + 1))
        rw [List.length_replicate] at this
        rw [this, show (i + 1).toNat = i.toNat + 1 by omega, List.replicate_succ']
        simp
      rw [hset] at ho3
      exact ho3
    · rw [show (i + 1).toNat = i.toNat + 1 by omega] at hr'
      have hmem : r' ∈ ls := List.mem_of_mem_drop hr'
      exact OwnF.else (e := 0) (hin2 r' hr') he3 hfr fun g hg => h.far r' hmem g hg

end Go.Proofs.YtljbcihbgeiacaaGreat

/- VcTable -/
namespace Go.Proofs.YtljbcihbgeiacaaGreat

/-- A table in block n. -/
structure TabAt (u : H) (n : Nat) (dim : Int) (L : List Rw) : Prop where
  ex : ∃ (s : Sl) (v : H), u n = some (.cells #[.int .i64 dim, .slice s.a s.n s.c] 91 (0, 0)) ∧ v.le u ∧ v n = none ∧ Rws v s L
  srt : L.Pairwise fun a b => a.id < b.id

theorem TabAt.keep {u u' : H} {n : Nat} {dim : Int} {L : List Rw} (h : TabAt u n dim L) (hu : u.le u') : TabAt u' n dim L := by
  obtain ⟨s, v, h1, h2, h3, h4⟩ := h.ex
  exact ⟨⟨s, v, hu _ _ h1, h2.trans hu, h3, h4⟩, h.srt⟩

abbrev Pr := Int × List Int

def tputP (P : List Pr) (id : Int) (v : List Int) : List Pr := P.filter (fun p => decide (p.1 < id)) ++ (id, v) :: P.filter (fun p => decide (id < p.1))
def tdelP (P : List Pr) (id : Int) : List Pr := P.filter fun p => p.1 != id

theorem srt_split {L : List Rw} (hs : L.Pairwise fun a b => a.id < b.id) {id : Int} {k : Nat} (hk : k ≤ L.length) (h1 : ∀ (i : Nat) r, i < k → L[i]? = some r → r.id < id) (h2 : ∀ r, L[k]? = some r → id ≤ r.id) :
    L.take k = L.filter (fun r => decide (r.id < id)) ∧ (∀ r, L[k]? = some r → r.id ≠ id → L.drop k = L.filter (fun r => decide (id < r.id)) ∧ ∀ r ∈ L, r.id ≠ id) ∧ (L.length ≤ k → L.filter (fun r => decide (id < r.id)) = [] ∧ ∀ r ∈ L, r.id ≠ id) ∧
    (∀ r, L[k]? = some r → r.id = id → L.drop (k + 1) = L.filter (fun r => decide (id < r.id))) := by
  have hA : ∀ r ∈ L.take k, r.id < id := fun r hr => by
    obtain ⟨i, hi, rfl⟩ := List.mem_iff_getElem.1 hr
    simp only [List.length_take] at hi
    exact h1 i _ (by omega) (by rw [List.getElem_take]; exact List.getElem?_eq_getElem (by omega))
  have hB : ∀ r ∈ L.drop k, id ≤ r.id := fun r hr => by
    obtain ⟨i, hi, rfl⟩ := List.mem_iff_getElem.1 hr
    simp only [List.length_drop] at hi
    have hk' : k < L.length := by omega
    have h0 := h2 _ (List.getElem?_eq_getElem hk')
    rw [List.getElem_drop]
    rcases Nat.eq_zero_or_pos i with rfl | hp
    · exact h0
    · have := List.pairwise_iff_getElem.1 hs k (k + i) hk' (by omega) (by omega)
      omega
  have hL : L = L.take k ++ L.drop k := (List.take_append_drop k L).symm
  have e1 : L.filter (fun r => decide (r.id < id)) = L.take k := by
    conv => lhs; rw [hL]
    rw [List.filter_append, List.filter_eq_self.2 fun r hr => by simpa using hA r hr, List.filter_eq_nil_iff.2 fun r hr => by have := hB r hr; simp; omega, List.append_nil]
  have e2 : L.filter (fun r => decide (id < r.id)) = (L.drop k).filter (fun r => decide (id < r.id)) := by
    conv => lhs; rw [hL]
    rw [List.filter_append, List.filter_eq_nil_iff.2 fun r hr => by have := hA r hr; simp; omega, List.nil_append]
  have hC : ∀ r, L[k]? = some r → ∀ r' ∈ L.drop (k + 1), r.id < r'.id := fun r hr r' hr' => by
    obtain ⟨hk', rfl⟩ := List.getElem?_eq_some_iff.1 hr
    obtain ⟨i, hi, rfl⟩ := List.mem_iff_getElem.1 hr'
    simp only [List.length_drop] at hi
    rw [List.getElem_drop]
    exact List.pairwise_iff_getElem.1 hs k (k + 1 + i) hk' (by omega) (by omega)
  refine ⟨e1.symm, fun r hr hne => ?_, fun hl => ?_, fun r hr he => ?_⟩
  · obtain ⟨hk', hrk⟩ := List.getElem?_eq_some_iff.1 hr
    have hge := h2 r hr
    have hall : ∀ r' ∈ L.drop k, id < r'.id := fun r' hr' => by
      rw [List.drop_eq_getElem_cons hk', hrk] at hr'
      rcases List.mem_cons.1 hr' with rfl | hr'
      · omega
      · have := hC r hr r' hr'; omega
    refine ⟨by rw [e2, List.filter_eq_self.2 fun r hr => by simpa using hall r hr], fun r' hr' => ?_⟩
    rw [hL] at hr'
    rcases List.mem_append.1 hr' with h3 | h3
    · have := hA r' h3; omega
    · have := hall r' h3; omega
  · have : L.drop k = [] := List.drop_eq_nil_of_le hl
    refine ⟨by rw [e2, this]; rfl, fun r' hr' => ?_⟩
    rw [hL, this, List.append_nil] at hr'
    have := hA r' hr'; omega
  · obtain ⟨hk', hrk⟩ := List.getElem?_eq_some_iff.1 hr
    rw [e2, List.drop_eq_getElem_cons hk', hrk, List.filter_cons]
    have : decide (id < r.id) = false := by simp; omega
    rw [this]
    simp only [Bool.false_eq_true, if_false]
    rw [List.filter_eq_self.2 fun r' hr' => by have := hC r hr r' hr'; simp; omega]

theorem pr_filter (L : List Rw) (f : Pr → Bool) : (L.filter fun r => f r.pr).map Rw.pr = (L.map Rw.pr).filter f := by
  rw [List.filter_map]; rfl

theorem pr_lt (L : List Rw) (id : Int) : (L.filter fun r => decide (r.id < id)).map Rw.pr = (L.map Rw.pr).filter fun p => decide (p.1 < id) := pr_filter L fun p => decide (p.1 < id)
theorem pr_gt (L : List Rw) (id : Int) : (L.filter fun r => decide (id < r.id)).map Rw.pr = (L.map Rw.pr).filter fun p => decide (id < p.1) := pr_filter L fun p => decide (id < p.1)

theorem srt_take {L : List Rw} (hs : L.Pairwise fun a b => a.id < b.id) {r : Rw} : (L.filter (fun x => decide (x.id < r.id)) ++ r :: L.filter (fun x => decide (r.id < x.id))).Pairwise fun a b => a.id < b.id := by
  refine List.pairwise_append.2 ⟨hs.sublist List.filter_sublist, List.pairwise_cons.2 ⟨fun x hx => by simpa using (List.mem_filter.1 hx).2, hs.sublist List.filter_sublist⟩, fun a ha b hb => ?_⟩
  have h1 : a.id < r.id := by simpa using (List.mem_filter.1 ha).2
  rcases List.mem_cons.1 hb with rfl | hb
  · exact h1
  · have h2 : r.id < b.id := by simpa using (List.mem_filter.1 hb).2
    omega

/-- A table's slice stored. -/
theorem st_tab {u : H} {n : Nat} {dim : Int} {s s' : Sl} {f : H → Prop} (hn : u n = some (.cells #[.int .i64 dim, .slice s.a s.n s.c] 91 (0, 0))) (hf : f (u.ins n (.cells #[.int .i64 dim, .slice s'.a s'.n s'.c] 91 (0, 0)))) :
    H.St u ((Addr.mk n 0 none).add 1) [.slice s'.a s'.n s'.c] f := by
  rw [add1]
  refine ⟨_, _, hn, rfl, by simp, by simp [Value.oneCell'], ?_⟩
  have : wr #[.int .i64 dim, .slice s.a s.n s.c] 1 [.slice s'.a s'.n s'.c] = #[.int .i64 dim, .slice s'.a s'.n s'.c] := by simp [wr]
  simp only [this]
  exact hf

theorem Rws.nil (u : H) : Rws u ⟨none, 0, 0⟩ [] := ⟨⟨rfl, Nat.le_refl _, by decide, .inl rfl⟩, fun _ h => by cases h⟩

/-- The table's new rows, put together: those ahead, one perhaps, those behind. -/
theorem tab_new {u uE : H} {n : Nat} {dim : Int} {s s' : Sl} {v : H} {L' : List Rw} (hu : u.le uE) (hn : u n = some (.cells #[.int .i64 dim, .slice s.a s.n s.c] 91 (0, 0))) (hv : v.le u) (hvn : v n = none)
    (ho : OwnF u uE 43 2 s' (L'.flatMap encR)) (hin : ∀ r ∈ L', Ints v r.s r.v ∨ (Ints uE r.s r.v ∧ ∀ g, r.s.blk = some g → u g = none)) (hs : L'.Pairwise fun a b => a.id < b.id) :
    TabAt (uE.ins n (.cells #[.int .i64 dim, .slice s'.a s'.n s'.c] 91 (0, 0))) n dim L' ∧ ∀ c o, u c = some o → c ≠ n → (uE.ins n (.cells #[.int .i64 dim, .slice s'.a s'.n s'.c] 91 (0, 0))) c = some o := by
  let w : H := fun c => if c = n then none else uE c
  have w1 : w n = none := if_pos rfl
  have w2 : ∀ c, c ≠ n → w c = uE c := fun c hc => if_neg hc
  have hg : ∀ g, s'.blk = some g → g ≠ n := fun g hg e => by have := ho.fresh g hg; rw [e, hn] at this; cases this
  refine ⟨⟨⟨s', w, H.ins_same _ _ _, fun c o hc => ?_, w1, ?_, fun r hr => ?_⟩, hs⟩, fun c o hc hne => by rw [H.ins_other _ _ hne]; exact hu c o hc⟩
  · by_cases e : c = n
    · rw [e, w1] at hc; cases hc
    · rw [w2 c e] at hc; rw [H.ins_other _ _ e]; exact hc
  · exact Seg.else ho.own.seg fun g o h1 h2 => by rw [w2 g (hg g h1)]; exact h2
  · rcases hin r hr with h1 | ⟨h1, h2⟩
    · refine Ints.mono h1 fun c o hc => ?_
      have : c ≠ n := fun e => by rw [e, hvn] at hc; cases hc
      rw [w2 c this]; exact hu c o (hv c o hc)
    · refine Seg.else h1 fun g o h3 h4 => ?_
      have : g ≠ n := fun e => by have := h2 g h3; rw [e, hn] at this; cases this
      rw [w2 g this]; exact h4

theorem spec.theodoliteref05_Table__Delete {u : H} {n : Nat} {dim id : Int} {L : List Rw} {K : Bool → H → Prop} (h : TabAt u n dim L) (hl : L.length ≤ 1000000)
    (hno : (∀ r ∈ L, r.id ≠ id) → K false u) (hyes : (∃ r ∈ L, r.id = id) → ∀ u' L', TabAt u' n dim L' → L'.map Rw.pr = tdelP (L.map Rw.pr) id → (∀ c o, u c = some o → c ≠ n → u' c = some o) → K true u') : C.theodoliteref05_Table__Delete (some ⟨n, 0, none⟩) id u K := by
  obtain ⟨s, v, hn, hv, hvn, hR⟩ := h.ex
  have hR' := hR.mono hv
  have hsn := hR'.len
  have hsx := hR'.max
  have c1 : u.cell? ((Addr.mk n 0 none).add 1) = some (.slice s.a s.n s.c) := by rw [add1]; exact H.cell?_of hn 1
  have hcap := Seg.cap hR'.1
  apply vc.theodoliteref05_Table__Delete
  refine ⟨_, rfl, s, c1, spec.theodoliteref05_find hR' (fun i r hr hid => ⟨fun h0 => by omega, fun _ => ?_⟩) fun hne => ⟨fun _ => hno hne, fun h0 => absurd (by decide) h0⟩⟩
  have hil : i < L.length := (List.getElem?_eq_some_iff.1 hr).1
  refine ⟨_, rfl, s, c1, ?_⟩
  refine sem_slice (P := Tryz.prog) tRows (l := 0) (h := i) (m := s.c) (.inl ⟨rfl, rfl⟩) (.inr rfl) (.inl ⟨rfl, rfl⟩) (by omega) (by omega) (Nat.le_refl _) hcap ?_
  have hA := hR'.part (l := 0) (h := i) (m := s.c) (by omega) (by omega) (by omega) (Nat.le_refl _)
  simp only [List.drop_zero, Nat.sub_zero] at hA
  have hAn : (s.part 0 i s.c 2).n = i := by simp [Sl.part]
  have hmR : ∀ (M : List Rw), ∀ y ∈ M.flatMap encR, y.oneCell' = true := fun M y hy => by
    obtain ⟨r, _, hr⟩ := List.mem_flatMap.1 hy
    exact encR_one r y hr
  have hnilO : OwnF u u 43 2 ⟨none, 0, 0⟩ [] := OwnF.nil (H.le.refl u) 43 2
  refine sem_appendF (s := ⟨none, 0, 0⟩) (x := s.part 0 i s.c 2) tRows (by decide) hnilO hA.1 (hmR _) (by rw [hAn]; show 0 + i ≤ _; omega) (by rw [hAn]; show (0 + i) * 32 ≤ _; omega) fun s8 u9 ho8 hn8 => ⟨_, rfl, s, by rw [add1]; exact H.cell?_of (ho8.le _ _ hn) 1, ⟨by omega, by omega⟩, ?_⟩
  have hR9 := hR'.mono ho8.le
  refine sem_slice (P := Tryz.prog) tRows (l := i + 1) (h := s.n) (m := s.c) (.inr rfl) (.inl ⟨rfl, rfl⟩) (.inl ⟨rfl, rfl⟩) (by omega) hcap (Nat.le_refl _) hcap ?_
  have hB := hR9.part (l := i + 1) (h := s.n) (m := s.c) (by omega) (Nat.le_refl _) hcap (Nat.le_refl _)
  rw [List.take_of_length_le (by simp; omega)] at hB
  have hBn : (s.part (i + 1) s.n s.c 2).n = s.n - (i + 1) := rfl
  rw [hAn] at hn8
  have hn8' : s8.n = i := by rw [hn8]; exact Nat.zero_add i
  refine sem_appendF (s := s8) (x := s.part (i + 1) s.n s.c 2) tRows (by decide) ho8 hB.1 (hmR _) (by rw [hBn]; omega) (by rw [hBn]; omega) fun s14 u15 ho14 _ => ⟨_, rfl, st_tab (ho14.le _ _ hn) ?_⟩
  rw [List.nil_append, ← List.flatMap_append] at ho14
  have hsub : (L.take i ++ L.drop (i + 1)).Sublist L := by
    have := (List.eraseIdx_sublist L i)
    rw [List.eraseIdx_eq_take_drop_succ] at this
    exact this
  obtain ⟨k1, k2⟩ := tab_new ho14.le hn hv hvn ho14 (fun r' hr' => .inl (hR.2 r' (hsub.mem hr'))) (h.srt.sublist hsub)
  refine hyes ⟨r, List.mem_of_getElem? hr, hid⟩ _ _ k1 ?_ k2
  obtain ⟨e1, _, _, e4⟩ := srt_split h.srt (id := id) (k := i) (by omega) (fun j r' hj hr' => by
    obtain ⟨h1, rfl⟩ := List.getElem?_eq_some_iff.1 hr'
    obtain ⟨h2, h3⟩ := List.getElem?_eq_some_iff.1 hr
    have := List.pairwise_iff_getElem.1 h.srt j i h1 h2 hj
    rw [h3] at this; omega) (fun r' hr' => by rw [hr] at hr'; cases hr'; omega)
  rw [e1, e4 r hr hid, List.map_append]
  rw [pr_lt, pr_gt]
  unfold tdelP
  -- both parts of a rising list
  have hsp : (L.map Rw.pr).Pairwise fun a b => a.1 < b.1 := List.pairwise_map.2 h.srt
  generalize L.map Rw.pr = P at hsp
  clear e1 e4 k1 k2 ho14
  induction P with
  | nil => rfl
  | cons p P ih =>
    obtain ⟨hp, hP⟩ := List.pairwise_cons.1 hsp
    have := ih hP
    rcases Int.lt_trichotomy p.1 id with h1 | h1 | h1
    · have a1 : decide (p.1 < id) = true := by simpa using h1
      have a2 : decide (id < p.1) = false := by simp; omega
      have a3 : (p.1 != id) = true := by simp; omega
      simp only [List.filter_cons, a1, a2, a3, if_true, Bool.false_eq_true, if_false, List.cons_append]
      rw [this]
    · have a1 : decide (p.1 < id) = false := by simp; omega
      have a2 : decide (id < p.1) = false := by simp; omega
      have a3 : (p.1 != id) = false := by simp; omega
      simp only [List.filter_cons, a1, a2, a3, Bool.false_eq_true, if_false]
      exact this
    · have a1 : decide (p.1 < id) = false := by simp; omega
      have a2 : decide (id < p.1) = true := by simpa using h1
      have a3 : (p.1 != id) = true := by simp; omega
      have nil : P.filter (fun p => decide (p.1 < id)) = [] := List.filter_eq_nil_iff.2 fun x hx => by have := hp x hx; simp; omega
      rw [nil] at this
      simp only [List.filter_cons, a1, a2, a3, if_true, Bool.false_eq_true, if_false, nil, List.nil_append]
      rw [← this, List.nil_append]

theorem spec.theodoliteref05_Table__Put {u : H} {n : Nat} {dim id : Int} {t : Sl} {q : List Int} {L : List Rw} {K : Bool → Int → H → Prop} (h : TabAt u n dim L) (hl : L.length ≤ 1000000) (ht : Ints u t q)
    (hbad : mayErr id q dim (decide (id ∈ L.map (·.id))) L.length ≠ 0 → K false (mayErr id q dim (decide (id ∈ L.map (·.id))) L.length) u)
    (hok : mayErr id q dim (decide (id ∈ L.map (·.id))) L.length = 0 → ∀ u' L', TabAt u' n dim L' → L'.map Rw.pr = tputP (L.map Rw.pr) id q → (∀ c o, u c = some o → c ≠ n → u' c = some o) → K (decide (id ∉ L.map (·.id))) 0 u') : C.theodoliteref05_Table__Put (some ⟨n, 0, none⟩) id t u K := by
  obtain ⟨s, v, hn, hv, hvn, hR⟩ := h.ex
  have hR' := hR.mono hv
  have hsn := hR'.len
  have hsx := hR'.max
  have c0 : u.cell? ⟨n, 0, none⟩ = some (.int .i64 dim) := H.cell?_of hn 0
  have c1 : u.cell? ((Addr.mk n 0 none).add 1) = some (.slice s.a s.n s.c) := by rw [add1]; exact H.cell?_of hn 1
  have hcap := Seg.cap hR'.1
  have hmR : ∀ (M : List Rw), ∀ y ∈ M.flatMap encR, y.oneCell' = true := fun M y hy => by
    obtain ⟨r, _, hr⟩ := List.mem_flatMap.1 hy
    exact encR_one r y hr
  have bad : ∀ z, mayErr id q dim (decide (id ∈ L.map (·.id))) L.length = z → z ≠ 0 → K false z u := fun z e hz => by
    subst e; exact hbad hz
  apply vc.theodoliteref05_Table__Put
  refine spec.theodoliteref03_Id ⟨fun hno => bad 50 ?_ (by decide), fun hid => ?_⟩
  · have : ¬ (1 ≤ id ∧ id ≤ 1000000000) := by simpa using hno
    unfold mayErr; rw [if_pos (by omega)]
  have hid1 : 1 ≤ id ∧ id ≤ 1000000000 := by simpa using hid
  have hnid : ¬ (id < 1 ∨ 1000000000 < id) := by omega
  refine ⟨_, rfl, dim, c0, spec.theodoliteref03_Check ht ⟨fun hne => bad _ ?_ hne, fun he => ?_⟩⟩
  · unfold mayErr; rw [if_neg hnid, if_pos hne]
  intro K6 hK6
  -- where it belongs
  have found : ∀ k : Nat, k ≤ L.length → (∀ (i : Nat) r, i < k → L[i]? = some r → r.id < id) → (∀ r, L[k]? = some r → id ≤ r.id) → K6 k u := by
    intro k hk h1 h2
    obtain ⟨e1, e2, e3, e4⟩ := srt_split h.srt hk h1 h2
    refine hK6 _ _ fun K9 hK9 => ?_
    -- behind the question whether it is fresh
    have fresh : ∀ bb : Bool, (bb = true ↔ id ∉ L.map (·.id)) → (bb = false → ∃ r, L[k]? = some r ∧ r.id = id) → (bb = true → L.drop k = L.filter (fun r => decide (id < r.id))) → K9 bb u := by
      intro bb hbb hbf hbt
      refine hK9 _ _ fun K12 hK12 => ?_
      have put : (bb = true → L.length < 512) → ∀ b13 x14, K12 b13 x14 u := by
        intro hsm b13 x14
        refine hK12 _ _ _ ⟨_, rfl, s, c1, ?_⟩
        refine sem_slice (P := Tryz.prog) tRows (l := k) (h := s.n) (m := s.c) (.inr rfl) (.inl ⟨rfl, rfl⟩) (.inl ⟨rfl, rfl⟩) (by omega) hcap (Nat.le_refl _) hcap ?_
        intro K20 hK20
        -- the rest, whichever it is
        have rest : ∀ (s21 : Sl), Rws u s21 (L.filter fun r => decide (id < r.id)) → s21.n ≤ L.length → K20 s21 u := by
          intro s21 h21 h21n
          have hqn := ht.len
          have hqm : q.length ≤ 64 := by
            have := vcheck_ok he
            omega
          have hnI : OwnF u u 3 1 ⟨none, 0, 0⟩ [] := OwnF.nil (H.le.refl u) 3 1
          have hseg : Seg u t 1 (q.flatMap encI) := by have := ht; unfold Ints at this; rw [← flatI] at this; exact this
          refine hK20 _ _ (sem_appendF (s := ⟨none, 0, 0⟩) (x := t) tInts (by decide) hnI hseg (fun y hy => by
            obtain ⟨r, _, hr⟩ := List.mem_flatMap.1 hy
            exact encI_one r y hr) (by show 0 + t.n ≤ _; omega) (by show (0 + t.n) * 8 ≤ _; omega) fun s23 u24 ho23 _ => ?_)
          rw [List.nil_append] at ho23
          have hn24 := ho23.le _ _ hn
          refine ⟨_, rfl, s, by rw [add1]; exact H.cell?_of hn24 1, ?_⟩
          refine sem_slice (P := Tryz.prog) tRows (l := 0) (h := k) (m := s.c) (.inl ⟨rfl, rfl⟩) (.inr rfl) (.inl ⟨rfl, rfl⟩) (by omega) (by omega) (Nat.le_refl _) hcap ?_
          have hA := (hR'.mono ho23.le).part (l := 0) (h := k) (m := s.c) (by omega) (by omega) (by omega) (Nat.le_refl _)
          simp only [List.drop_zero, Nat.sub_zero] at hA
          have hAn : (s.part 0 k s.c 2).n = k := by simp [Sl.part]
          have hnR : OwnF u24 u24 43 2 ⟨none, 0, 0⟩ [] := OwnF.nil (H.le.refl u24) 43 2
          refine sem_appendF (s := ⟨none, 0, 0⟩) (x := s.part 0 k s.c 2) tRows (by decide) hnR hA.1 (hmR _) (by rw [hAn]; show 0 + k ≤ _; omega) (by rw [hAn]; show (0 + k) * 32 ≤ _; omega) fun s29 u30 ho29 hn29 => ?_
          rw [hAn] at hn29
          have hn29' : s29.n = k := by rw [hn29]; exact Nat.zero_add k
          rw [List.nil_append] at ho29
          refine sem_push' tRows (build_row1 id s23) (by decide) rfl (by simp [Value.oneCell']) ho29 (by omega) (by omega) fun s33 u34 ho33 hn33 _ _ _ => ?_
          have hfl : (L.take k).flatMap encR ++ [.int .i64 id, .slice s23.a s23.n s23.c] = (L.take k ++ [(⟨id, s23, q⟩ : Rw)]).flatMap encR := by simp [encR]
          rw [hfl] at ho33
          have hle34 : u.le u34 := ho23.le.trans ho33.le
          refine sem_appendF (s := s33) (x := s21) tRows (by decide) ho33 (h21.mono hle34).1 (hmR _) (by omega) (by omega) fun s35 u36 ho35 _ => ⟨_, rfl, st_tab (ho35.le _ _ hn24) ?_⟩
          rw [← List.flatMap_append] at ho35
          have hL' : L.take k ++ [(⟨id, s23, q⟩ : Rw)] ++ L.filter (fun r => decide (id < r.id)) = L.filter (fun x => decide (x.id < id)) ++ ⟨id, s23, q⟩ :: L.filter (fun x => decide (id < x.id)) := by rw [e1]; simp
          rw [hL'] at ho35
          have hsrt := srt_take h.srt (r := (⟨id, s23, q⟩ : Rw))
          have hle36 : u.le u36 := ho23.le.trans ho35.le
          have hin : ∀ r ∈ L.filter (fun x => decide (x.id < id)) ++ (⟨id, s23, q⟩ : Rw) :: L.filter (fun x => decide (id < x.id)), Ints v r.s r.v ∨ (Ints u36 r.s r.v ∧ ∀ g, r.s.blk = some g → u g = none) := fun r hr => by
            rcases List.mem_append.1 hr with hr | hr
            · exact .inl (hR.2 r (List.mem_filter.1 hr).1)
            · rcases List.mem_cons.1 hr with rfl | hr
              · exact .inr ⟨(ho23.mono ho35.le).ints, fun g hg => ho23.fresh g hg⟩
              · exact .inl (hR.2 r (List.mem_filter.1 hr).1)
          obtain ⟨k1, k2⟩ := tab_new hle36 hn hv hvn (ho35.weaken ho23.le) hin hsrt
          have hmay : mayErr id q dim (decide (id ∈ L.map (·.id))) L.length = 0 := by
            unfold mayErr
            rw [if_neg hnid, if_neg (by simpa using he), if_neg]
            rintro ⟨h5, h6⟩
            have h7 : id ∉ L.map (·.id) := by simpa using h5
            have := hsm (hbb.2 h7)
            omega
          have hbd : decide (id ∉ L.map (·.id)) = bb := by
            cases bb with
            | true => exact decide_eq_true (hbb.1 rfl)
            | false => exact decide_eq_false fun h5 => by have := hbb.2 h5; cases this
          have := hok hmay _ _ k1 (by
            rw [List.map_append, List.map_cons, pr_lt, pr_gt]
            rfl) k2
          rw [hbd] at this
          exact this
        refine ⟨fun hb => ?_, fun hb => ?_⟩
        · have hbf' : bb = false := by simpa using hb
          obtain ⟨r, hr, hrid⟩ := hbf hbf'
          have hkl : k < L.length := (List.getElem?_eq_some_iff.1 hr).1
          refine ⟨_, rfl, s, c1, ⟨by omega, by omega⟩, ?_⟩
          refine sem_slice (P := Tryz.prog) tRows (l := k + 1) (h := s.n) (m := s.c) (.inr rfl) (.inl ⟨rfl, rfl⟩) (.inl ⟨rfl, rfl⟩) (by omega) hcap (Nat.le_refl _) hcap ?_
          have hB := hR'.part (l := k + 1) (h := s.n) (m := s.c) (by omega) (Nat.le_refl _) hcap (Nat.le_refl _)
          rw [List.take_of_length_le (by simp; omega), e4 r hr hrid] at hB
          exact rest _ hB (by show s.n - (k + 1) ≤ _; omega)
        · have hB := hR'.part (l := k) (h := s.n) (m := s.c) (by omega) (Nat.le_refl _) hcap (Nat.le_refl _)
          rw [List.take_of_length_le (by simp; omega), hbt hb] at hB
          exact rest _ hB (by show s.n - k ≤ _; omega)
      refine ⟨fun hb => ⟨_, rfl, s, c1, fun hmany => bad 2 ?_ (by decide), fun hfew => put (fun _ => by omega) _ _⟩, fun hb => put (fun h5 => by rw [hb] at h5; cases h5) _ _⟩
      have h7 : id ∉ L.map (·.id) := hbb.1 hb
      unfold mayErr
      rw [if_neg hnid, if_neg (by simpa using he), if_pos ⟨decide_eq_false h7, by omega⟩]
    have nin : (∀ r ∈ L, r.id ≠ id) → id ∉ L.map (·.id) := fun h5 hm => by
      obtain ⟨r, hr, e⟩ := List.mem_map.1 hm
      exact h5 r hr e
    refine ⟨_, rfl, s, c1, fun hke => ?_, fun hke => ?_⟩
    · have hkl : L.length ≤ k := by omega
      obtain ⟨f1, f2⟩ := e3 hkl
      exact fresh true ⟨fun _ => nin f2, fun _ => rfl⟩ (fun h5 => by cases h5) fun _ => by rw [f1, List.drop_eq_nil_of_le hkl]
    · have hkl : k < L.length := by omega
      obtain ⟨p, hp, r, hr, d0, d1, d2⟩ := hR'.at (x := (k : Int)) (by omega) (by omega)
      rw [Int.toNat_natCast] at hr
      refine ⟨_, rfl, s, c1, p, hp, ⟨by omega, by omega⟩, _, d0, ?_⟩
      by_cases hrid : r.id = id
      · have : (!decide (r.id = id)) = false := by simp [hrid]
        rw [this]
        exact fresh false ⟨fun h5 => (by cases h5), fun h5 => absurd (List.mem_map.2 ⟨r, List.mem_of_getElem? hr, hrid⟩) h5⟩ (fun _ => ⟨r, hr, hrid⟩) fun h5 => by cases h5
      · have : (!decide (r.id = id)) = true := by simp [hrid]
        rw [this]
        obtain ⟨f1, f2⟩ := e2 r hr hrid
        exact fresh true ⟨fun _ => nin f2, fun _ => rfl⟩ (fun h5 => by cases h5) fun _ => f1
  refine ⟨fun i w => w = u ∧ 0 ≤ i ∧ i ≤ L.length ∧ ∀ (j : Nat) r, j < i.toNat → L[j]? = some r → r.id < id, fun i _ => L.length - i.toNat, ⟨rfl, by omega, by omega, fun j r hj => by simp at hj⟩, ?_⟩
  rintro i w ⟨rfl, i0, i1, hbef⟩
  intro K55 hK55
  refine ⟨_, rfl, s, c1, fun hil => ?_, fun hig => ?_⟩
  · obtain ⟨p, hp, r, hr, d0, d1, d2⟩ := hR'.at i0 hil
    refine ⟨_, rfl, s, c1, p, hp, ⟨i0, hil⟩, _, d0, fun hlt => hK55 _ ⟨⟨by omega, by omega⟩, ⟨rfl, by omega, by omega, fun j r' hj hr' => ?_⟩, by dsimp only; omega⟩, fun hge => ?_⟩
    · by_cases e : j = i.toNat
      · rw [e, hr] at hr'; cases hr'; exact hlt
      · exact hbef j r' (by omega) hr'
    · have := found i.toNat (by omega) hbef fun r' hr' => by rw [hr] at hr'; cases hr'; omega
      rw [Int.toNat_of_nonneg i0] at this
      exact this
  · have := found i.toNat (by omega) hbef fun r' hr' => by
      have := (List.getElem?_eq_some_iff.1 hr').1
      omega
    rw [Int.toNat_of_nonneg i0] at this
    exact this

end Go.Proofs.YtljbcihbgeiacaaGreat

/- VcTable2 -/
namespace Go.Proofs.YtljbcihbgeiacaaGreat

theorem tputP_perm {P : List Pr} {id : Int} (h : id ∉ P.map (·.1)) (v : List Int) : (tputP P id v).Perm ((id, v) :: P) := by
  unfold tputP
  refine List.perm_middle.trans (List.Perm.cons _ ?_)
  induction P with
  | nil => exact List.Perm.refl _
  | cons p P ih =>
    simp only [List.map_cons, List.mem_cons, not_or] at h
    have := ih h.2
    rcases Int.lt_trichotomy p.1 id with h1 | h1 | h1
    · have a1 : decide (p.1 < id) = true := by simpa using h1
      have a2 : decide (id < p.1) = false := by simp; omega
      simp only [List.filter_cons, a1, a2, if_true, Bool.false_eq_true, if_false, List.cons_append]
      exact List.Perm.cons _ this
    · exact absurd h1.symm h.1
    · have a1 : decide (p.1 < id) = false := by simp; omega
      have a2 : decide (id < p.1) = true := by simpa using h1
      simp only [List.filter_cons, a1, a2, if_true, Bool.false_eq_true, if_false]
      exact List.perm_middle.trans (List.Perm.cons _ this)

/-- Rising rows are told by what they are alone. -/
theorem pr_rise_eq {P Q : List Pr} (hp : P.Pairwise fun a b => a.1 < b.1) (hq : Q.Pairwise fun a b => a.1 < b.1) (h : P.Perm Q) : P = Q := by
  induction P generalizing Q with
  | nil => exact (List.eq_nil_of_length_eq_zero (by have := h.length_eq; simpa using this.symm)).symm
  | cons p P ih =>
    cases Q with
    | nil => have := h.length_eq; simp at this
    | cons q Q =>
      obtain ⟨h1, h2⟩ := List.pairwise_cons.1 hp
      obtain ⟨h3, h4⟩ := List.pairwise_cons.1 hq
      have e : p = q := by
        have hpq : p ∈ q :: Q := h.mem_iff.1 (.head _)
        have hqp : q ∈ p :: P := h.mem_iff.2 (.head _)
        rcases List.mem_cons.1 hpq with h5 | h5
        · exact h5
        · rcases List.mem_cons.1 hqp with h6 | h6
          · exact h6.symm
          · have := h3 p h5; have := h1 q h6; omega
      subst e
      rw [ih h2 h4 ((List.perm_cons p).1 h)]

theorem TabAt.rise {u : H} {n : Nat} {dim : Int} {L : List Rw} (h : TabAt u n dim L) : (L.map Rw.pr).Pairwise fun a b => a.1 < b.1 := List.pairwise_map.2 h.srt

theorem ids_pr (L : List Rw) : L.map (·.id) = (L.map Rw.pr).map (·.1) := by rw [List.map_map]; rfl

theorem spec.theodoliteref05_Of {s : Sl} {l : List Rw} {d : Int} {u : H} {K : Option Addr → H → Prop} (hs : Rws u s l) (hl : Rok l d) (hK : ∀ n u' L, u n = none → u.le u' → TabAt u' n d L → (L.map Rw.pr).Perm (l.map Rw.pr) → K (some ⟨n, 0, none⟩) u') : C.theodoliteref05_Of s d u K := by
  have hsn := hs.len
  have hlen := hl.len
  apply vc.theodoliteref05_Of
  intro n hn
  have hle := H.le_ins (u := u) (b := n) (.cells #[.int .i64 d, .slice none 0 0] 91 (0, 0)) hn
  refine ⟨fun i w => 0 ≤ i ∧ i ≤ l.length ∧ u.le w ∧ ∃ L, TabAt w n d L ∧ (L.map Rw.pr).Perm ((l.take i.toNat).map Rw.pr), fun i _ => l.length - i.toNat,
    ⟨by omega, by omega, hle, [], ⟨⟨⟨none, 0, 0⟩, u, H.ins_same _ _ _, hle, hn, Rws.nil u⟩, List.Pairwise.nil⟩, by simp⟩, ?_⟩
  rintro i w ⟨i0, i1, hw, L, hT, hp⟩
  refine ⟨fun hil => ?_, fun hig => ?_⟩
  · obtain ⟨p, hp', r, hr, c0, c1, c2⟩ := (hs.mono hw).at i0 hil
    have hi : i.toNat < l.length := by omega
    have hrm : r ∈ l := List.mem_of_getElem? hr
    have hLl : L.length = i.toNat := by have := hp.length_eq; simp at this; omega
    have hnin : r.id ∉ L.map (·.id) := fun hm => by
      rw [ids_pr] at hm
      have hm2 := ((hp.map (·.1)).mem_iff (a := r.id)).1 hm
      rw [← ids_pr] at hm2
      obtain ⟨r', hr', e⟩ := List.mem_map.1 hm2
      obtain ⟨j, hj, rfl⟩ := List.mem_iff_getElem.1 hr'
      simp only [List.length_take] at hj
      rw [List.getElem_take] at e
      have := List.pairwise_iff_getElem.1 hl.nodup j i.toNat (by simp; omega) (by simp; omega) (by omega)
      simp only [List.getElem_map] at this
      rw [List.getElem?_eq_getElem hi] at hr
      rw [Option.some.inj hr] at this
      exact this e
    have hv := hl.v r hrm
    have hid := hl.id r hrm
    have hmay : mayErr r.id r.v d (decide (r.id ∈ L.map (·.id))) L.length = 0 := by
      unfold mayErr
      rw [if_neg (by omega), if_neg, if_neg]
      · rintro ⟨_, h2⟩; omega
      · have := ok_vcheck hv.2 (by have := hl.dim; have := hv.1; omega)
        rw [hv.1] at this
        simpa using this
    refine ⟨p, hp', ⟨i0, hil⟩, _, c0, _, c1, spec.theodoliteref05_Table__Put hT (by omega) c2 (fun h => absurd hmay h) fun _ u' L' hT' hL' hk => ⟨⟨by omega, by omega⟩, ⟨by omega, by omega, fun c o hc => hk c o (hw c o hc) fun e => (by rw [e, hn] at hc; cases hc), L', hT', ?_⟩, by dsimp only; omega⟩⟩
    rw [hL', show (i + 1).toNat = i.toNat + 1 by omega, List.take_add_one, hr, List.map_append]
    refine (tputP_perm (by rw [← ids_pr]; exact hnin) r.v).trans ?_
    refine (List.Perm.cons _ hp).trans ?_
    exact (List.perm_append_singleton _ _).symm
  · have hi : i.toNat = l.length := by
      have : ¬ i < (s.n : Int) := hig
      omega
    rw [hi, List.take_length] at hp
    exact hK n w L hn hw hT hp

end Go.Proofs.YtljbcihbgeiacaaGreat

/- VcIxIv -/
namespace Go.Proofs.YtljbcihbgeiacaaGreat

abbrev Tr := Iv.Tr
abbrev ixRows (X : Tr) : List Pr := Iv.ixRows X
noncomputable abbrev ixH (X : Tr) (q : List Int) (k bud : Int) : List Hit := Iv.ixH X q k bud
noncomputable abbrev ixS (X : Tr) (q : List Int) (k bud : Int) : List Int := Iv.ixS X q k bud
noncomputable abbrev ixR (X : Tr) (q : List Int) (k bud : Int) : List (Int × Int × List Int × List Int × List Int) := Iv.ixR X q k bud
abbrev ixErr (l : List Rw) (dim A B : Int) : Int := Iv.ixErr l dim A B

/-- No table is needed. -/
def TabU (_ : H) : Prop := True

theorem TabU.mono {u u' : H} (_ : TabU u) (_ : u.le u') : TabU u' := trivial

/-- An index in memory: D: the blocks that are its own, all made behind u0. -/
abbrev Ix (u0 u : H) (D : Nat → Prop) (b : Nat) (X : Tr) : Prop := IxG Iv.TrAt Iv.TOk u0 u D b X

theorem Ix.base {u0 u : H} {D : Nat → Prop} {b : Nat} {X : Tr} (h : Ix u0 u D b X) : u0.le u ∧ (∀ c, D c → u0 c = none) ∧ ∀ c, D c → u c ≠ none := IxG.base h
theorem Ix.same {u0 u u' : H} {D : Nat → Prop} {b : Nat} {X : Tr} (h : Ix u0 u D b X) (hu : ∀ c o, u c = some o → D c → u' c = some o) (hle : u0.le u') : Ix u0 u' D b X := IxG.same Iv.keep h hu hle
theorem Ix.mono {u0 u u' : H} {D : Nat → Prop} {b : Nat} {X : Tr} (h : Ix u0 u D b X) (hu : u.le u') : Ix u0 u' D b X := IxG.mono Iv.keep h hu
theorem Ix.rebase {u0 u v : H} {D : Nat → Prop} {b : Nat} {X : Tr} (h : Ix u0 u D b X) (hv : v.le u0) : Ix v u D b X := IxG.rebase h hv

theorem spec.ix_Len {u0 u : H} {D : Nat → Prop} {b : Nat} {X : Tr} {K : Int → H → Prop} (h : Ix u0 u D b X) (hK : K (ixRows X).length u) : C.ivf_Tree__Len (some ⟨b, 0, none⟩) u K := by
  obtain ⟨fp, _, h2, h3⟩ := IxG.ex h
  exact Iv.spec.Len h2 h3 hK

theorem spec.ix_Put0 {u0 u : H} {D : Nat → Prop} {b : Nat} {X : Tr} {id : Int} {t : Sl} {q : List Int} {K : Bool → Int → H → Prop} (h : Ix u0 u D b X) (ht : Ints u t q) (hts : ∀ (fp : Nat → Option Iv.Tg) u1 (fp1 : Nat → Option Iv.Tg), (∀ c, D c ↔ fp c ≠ none) → u0.le u1 → TurnG u fp u1 fp1 → Ints u1 t q)
    (hbad : mayErr id q X.dim (decide (id ∈ (ixRows X).map (·.1))) (ixRows X).length ≠ 0 → K false (mayErr id q X.dim (decide (id ∈ (ixRows X).map (·.1))) (ixRows X).length) u)
    (hok : mayErr id q X.dim (decide (id ∈ (ixRows X).map (·.1))) (ixRows X).length = 0 → ∀ u' D' X', Ix u0 u' D' b X' → IxTurn u D u' D' → (ixRows X').Perm ((id, q) :: (ixRows X).filter fun x => x.1 != id) → X'.dim = X.dim → X'.links = X.links → K (decide (id ∉ (ixRows X).map (·.1))) 0 u') :
    C.ivf_Tree__Put (some ⟨b, 0, none⟩) id t u K := by
  obtain ⟨fp, h1, h2, h3⟩ := IxG.ex h
  exact Iv.spec.Put h2 h3 ht (fun u1 fp1 hle ht1 => hts fp u1 fp1 h1 hle ht1) hbad fun he u' fp' T' hr => hok he u' _ T' (ixg_of hr.is hr.ok) (turn_ixg h1 hr.turn) hr.rows hr.dim (by unfold Iv.Tr.links; rw [hr.cs])

theorem spec.ix_Put {u0 u : H} {D : Nat → Prop} {b : Nat} {X : Tr} {id : Int} {t : Sl} {q : List Int} {K : Bool → Int → H → Prop} (h : Ix u0 u D b X) (_ : TabU u0) (ht : Ints u t q) (hts : ∀ g, t.blk = some g → ¬ D g)
    (hbad : mayErr id q X.dim (decide (id ∈ (ixRows X).map (·.1))) (ixRows X).length ≠ 0 → K false (mayErr id q X.dim (decide (id ∈ (ixRows X).map (·.1))) (ixRows X).length) u)
    (hok : mayErr id q X.dim (decide (id ∈ (ixRows X).map (·.1))) (ixRows X).length = 0 → ∀ u' D' X', Ix u0 u' D' b X' → IxTurn u D u' D' → (ixRows X').Perm ((id, q) :: (ixRows X).filter fun x => x.1 != id) → X'.dim = X.dim → X'.links = X.links → K (decide (id ∉ (ixRows X).map (·.1))) 0 u') :
    C.ivf_Tree__Put (some ⟨b, 0, none⟩) id t u K :=
  spec.ix_Put0 h ht (fun fp u1 fp1 h1 _ ht1 => Seg.else ht fun g o hg ho => ht1.keep g o ho (by
    cases e : fp g with
    | none => rfl
    | some x => exact absurd ((h1 g).2 (by rw [e]; simp)) (hts g hg))) hbad hok

theorem spec.ix_Delete {u0 u : H} {D : Nat → Prop} {b : Nat} {X : Tr} {id : Int} {K : Bool → Int → H → Prop} (h : Ix u0 u D b X) (hno : id ∉ (ixRows X).map (·.1) → ∀ u', u.le u' → K false 0 u')
    (hyes : id ∈ (ixRows X).map (·.1) → ∀ u' D' X', Ix u0 u' D' b X' → IxTurn u D u' D' → ixRows X' = (ixRows X).filter (fun x => x.1 != id) → X'.dim = X.dim → X'.links = X.links → K true 0 u') : C.ivf_Tree__Delete (some ⟨b, 0, none⟩) id u K := by
  obtain ⟨fp, h1, h2, h3⟩ := IxG.ex h
  have hw : id ∈ X.w.map (·.1) ↔ id ∈ (ixRows X).map (·.1) := by rw [show ixRows X = Iv.ixRows X from rfl, Iv.ixRows_ids]; exact h3.wids
  exact Iv.spec.Delete h2 h3 (fun hn => hno fun hm => hn (hw.2 hm)) fun hn u' fp' T' hr => hyes (hw.1 hn) u' _ T' (ixg_of hr.is hr.ok) (turn_ixg h1 hr.turn) hr.rows hr.dim (by unfold Iv.Tr.links; rw [hr.cs])

theorem spec.ix_Rows {u0 u : H} {D : Nat → Prop} {b : Nat} {X : Tr} {K : Sl → H → Prop} (h : Ix u0 u D b X) (hK : ∀ s ls u', RowsO u u' s ls → (ls.map Rw.pr).Perm (ixRows X) → (ls.Pairwise fun a b => a.id ≤ b.id) → K s u') : C.ivf_Tree__Rows (some ⟨b, 0, none⟩) u K := by
  obtain ⟨fp, _, h2, h3⟩ := IxG.ex h
  exact Iv.spec.Rows h2 h3 hK

/-- How the centres came to be. -/
def ixWay (l : List Rw) (dim A B seed : Int) (c : List (List Int)) : Prop := ∃ P : List (Int × List Int), P.Perm (l.map Rw.pr) ∧ (P.Pairwise fun x y => x.1 < y.1) ∧ c = Iv.centI seed A B dim.toNat (P.map (·.2))

theorem spec.ix_Build {s : Sl} {l : List Rw} {dim A B seed : Int} {u : H} {K : Option Addr → Int → H → Prop} (hs : Rws u s l) (_ : TabU u) (_ : U64 seed)
    (hbad : ixErr l dim A B ≠ 0 → K none (ixErr l dim A B) u) (hok : ixErr l dim A B = 0 → ∀ b D X u', Ix u u' D b X → (ixRows X).Perm (l.map Rw.pr) → X.dim = dim → ixWay l dim A B seed X.links → K (some ⟨b, 0, none⟩) 0 u') : C.theodolitelaw09_build s dim A B seed u K := by
  apply vc.theodolitelaw09_build
  exact Iv.spec.Build hs hbad fun he u' b _ T hr => hok he b _ T u' (ixg_of hr.is hr.ok) hr.rows hr.dim hr.cs

theorem spec.ix_Search {u0 u : H} {D : Nat → Prop} {b : Nat} {X : Tr} {t : Sl} {q : List Int} {k bud : Int} {K : Sl → Sl → Sl → Int → H → Prop} (h : Ix u0 u D b X) (ht : Ints u t q)
    (hbad : askErr q X.dim k bud ≠ 0 → ∀ u', u.le u' → K ⟨none, 0, 0⟩ ⟨none, 0, 0⟩ ⟨none, 0, 0⟩ (askErr q X.dim k bud) u')
    (hok : askErr q X.dim k bud = 0 → ∀ sh ss sr rest u', AnsO u u' sh ss sr (ixH X q k bud) (ixS X q k bud) rest → rest.map Rgn.core = ixR X q k bud → K sh ss sr 0 u') : C.ivf_Tree__Search (some ⟨b, 0, none⟩) t k bud u K := by
  obtain ⟨fp, _, h2, h3⟩ := IxG.ex h
  exact Iv.spec.Search h2 h3 ht (fun hne => hbad hne u (H.le.refl u)) hok

theorem ix_sound3 {u0 u : H} {D : Nat → Prop} {b : Nat} {X : Tr} (h : Ix u0 u D b X) {q : List Int} {k bud : Int} (he : askErr q X.dim k bud = 0) {L : List Rw} (hL : (L.map Rw.pr).Perm (ixRows X)) (hq : Qok L q) {rest : List Rgn} (hr : rest.map Rgn.core = ixR X q k bud) :
    Sound L q k (ixH X q k bud) (ixS X q k bud) rest ∧ ((ixS X q k bud).length : Int) ≤ bud ∧ (((ixS X q k bud).length : Int) = bud ∨ (ixS X q k bud).length = L.length ∨ CertA q k (ixH X q k bud) rest) := by
  obtain ⟨fp, _, h2, h3⟩ := IxG.ex h
  obtain ⟨hv, k1, _, b0, _⟩ := askErr_ok.1 he
  exact Iv.tree_sound h3 k1 b0 (vcheck_ok hv).2.2.1 hL hq hr

theorem ixErr_rok {l : List Rw} {d A B : Int} (h : ixErr l d A B = 0) : Rok l d := by
  unfold ixErr Iv.ixErr at h
  split at h
  · rename_i h1; exact absurd h h1
  · rename_i h1
    exact rcheck_ok.1 (Classical.not_not.1 h1)

end Go.Proofs.YtljbcihbgeiacaaGreat

/- VcLawT1 -/
namespace Go.Proofs.YtljbcihbgeiacaaGreat

structure Cll where
  kind : Int
  id : Int
  k : Int
  bud : Int
  rid : Int
  rv : Sl
  v : List Int
  qs : Sl
  q : List Int

def encO (o : Cll) : List Value := [.int .i64 o.kind, .int .i64 o.id, .int .i64 o.k, .int .i64 o.bud, .int .i64 o.rid, .slice o.rv.a o.rv.n o.rv.c, .slice o.qs.a o.qs.n o.qs.c]
theorem encO_len (o : Cll) : (encO o).length = 7 := rfl
theorem encO_one (o : Cll) : ∀ v ∈ encO o, v.oneCell' = true := by simp [encO, Value.oneCell']

/-- Calls in memory. -/
def Ops (u : H) (s : Sl) (l : List Cll) : Prop := Seg u s 7 (l.flatMap encO) ∧ ∀ o ∈ l, Ints u o.rv o.v ∧ Ints u o.qs o.q

theorem Ops.len {u : H} {s : Sl} {l : List Cll} (h : Ops u s l) : s.n = l.length := flat_n encO_len (by decide) h.1
theorem Ops.max {u : H} {s : Sl} {l : List Cll} (h : Ops u s l) : s.n ≤ 9223372036854775807 := Nat.le_trans (Seg.cap h.1) (Seg.max h.1)
theorem Ops.mono {u u' : H} {s : Sl} {l : List Cll} (h : Ops u s l) (k : u.le u') : Ops u' s l := ⟨h.1.mono k, fun o ho => ⟨(h.2 o ho).1.mono k, (h.2 o ho).2.mono k⟩⟩
theorem Ops.nil (u : H) : Ops u ⟨none, 0, 0⟩ [] := ⟨⟨rfl, Nat.le_refl _, by decide, .inl rfl⟩, fun _ h => by cases h⟩

theorem Ops.at {u : H} {s : Sl} {l : List Cll} (h : Ops u s l) {x : Int} (h0 : 0 ≤ x) (h1 : x < (s.n : Int)) : ∃ p, s.a = some p ∧ ∃ o : Cll, l[x.toNat]? = some o ∧ o ∈ l ∧ u.cell? (p.add (x.toNat * 7)) = some (.int .i64 o.kind) ∧ u.cell? ((p.add (x.toNat * 7)).add 1) = some (.int .i64 o.id) ∧
    u.cell? ((p.add (x.toNat * 7)).add 2) = some (.int .i64 o.k) ∧ u.cell? ((p.add (x.toNat * 7)).add 3) = some (.int .i64 o.bud) ∧ u.cell? ((p.add (x.toNat * 7)).add 4) = some (.int .i64 o.rid) ∧
    u.cell? ((p.add (x.toNat * 7)).add 5) = some (.slice o.rv.a o.rv.n o.rv.c) ∧ u.cell? ((p.add (x.toNat * 7)).add 6) = some (.slice o.qs.a o.qs.n o.qs.c) ∧ Ints u o.rv o.v ∧ Ints u o.qs o.q := by
  have hn := h.len
  have hlt : x.toNat < l.length := by omega
  have hx : l[x.toNat]? = some l[x.toNat] := List.getElem?_eq_getElem hlt
  obtain ⟨p, hp, hc⟩ := Seg.elem encO_len (by decide) h.1 hx
  have h0' := hc 0 _ rfl
  rw [Addr.add_zero'] at h0'
  have hm := List.getElem_mem hlt
  exact ⟨p, hp, _, hx, hm, h0', hc 1 _ rfl, hc 2 _ rfl, hc 3 _ rfl, hc 4 _ rfl, hc 5 _ rfl, hc 6 _ rfl, (h.2 _ hm).1, (h.2 _ hm).2⟩

/-- What comes in: rows, calls. -/
structure Come2 (u : H) (s t : Sl) (l : List Rw) (ops : List Cll) : Prop where
  rows : Rws u s l
  calls : Ops u t ops
  small : ∀ r ∈ l, r.v.length ≤ 17592186044416
  sn : s.n ≤ 17592186044416
  smallO : ∀ o ∈ ops, o.v.length ≤ 17592186044416 ∧ o.q.length ≤ 17592186044416
  tn : t.n ≤ 17592186044416

theorem spec.theodolitelaw09_big {s t : Sl} {l : List Rw} {ops : List Cll} {u : H} {K : Bool → H → Prop} (hc : Come2 u s t l ops) (h1 : K true u)
    (h2 : l.length ≤ 2000 → ops.length ≤ 2000 → (∀ r ∈ l, r.v.length ≤ 32768) → (∀ o ∈ ops, o.v.length ≤ 32768 ∧ o.q.length ≤ 32768) → K false u) : C.theodolitelaw09_big s t u K := by
  have hsn := hc.rows.len
  have htn := hc.calls.len
  apply vc.theodolitelaw09_big
  intro K0 hK0
  refine ⟨fun _ => h1, fun ht => ⟨fun _ => h1, fun hs => spec.theodolitekeep_Vectors' hc.rows hc.small hc.sn (by omega) fun x hx => ⟨fun _ => h1, fun hx' => hK0 _ _ ?_⟩⟩⟩
  have hv : ∀ r ∈ l, r.v.length ≤ 32768 := fun r hr => by have := hx (by omega) r hr; omega
  have fin : ∀ n : Int, (n ≤ 32768 → ∀ o ∈ ops, o.v.length ≤ 32768 ∧ o.q.length ≤ 32768) → ∀ bb : Bool, (bb = true ↔ 32768 < n) → K bb u := fun n hn bb hb => by
    cases bb with
    | true => exact h1
    | false => exact h2 (by omega) (by omega) hv (hn (by
        by_cases e : 32768 < n
        · have := hb.2 e; cases this
        · omega))
  refine ⟨fun n i w => w = u ∧ 0 ≤ i ∧ i ≤ ops.length ∧ 0 ≤ n ∧ ∀ o ∈ ops.take i.toNat, (o.v.length : Int) ≤ n ∧ (o.q.length : Int) ≤ n, fun _ i _ => ops.length - i.toNat, ⟨rfl, by omega, by omega, by omega, fun o ho => by simp at ho⟩, ?_⟩
  rintro n i w ⟨rfl, i0, i1, n0, hacc⟩
  intro K8 hK8
  refine ⟨fun hil => ⟨fun hn => hK8 _ ?_, fun hn => fin n (fun h => absurd h hn) _ (by simp)⟩, fun hig => fin n (fun hn o ho => ?_) _ (by simp)⟩
  · obtain ⟨p, hp, o, ho, hom, c0, c1, c2, c3, c4, c5, c6, hv1, hv2⟩ := hc.calls.at i0 hil
    have l1 := hv1.len
    have l2 := hv2.len
    obtain ⟨s1, s2⟩ := hc.smallO o hom
    refine ⟨p, hp, ⟨i0, hil⟩, p, hp, ⟨i0, hil⟩, _, by rw [Addr.add_add']; exact c5, ⟨by omega, by omega⟩, _, c6, ⟨by omega, by omega⟩, ⟨by omega, by omega⟩, ⟨rfl, by omega, by omega, by omega, fun o' ho' => ?_⟩, by dsimp only; omega⟩
    rw [show (i + 1).toNat = i.toNat + 1 by omega, List.take_add_one, ho] at ho'
    rcases List.mem_append.1 ho' with h' | h'
    · have := hacc o' h'; omega
    · simp at h'; subst h'; omega
  · have hi : i.toNat = ops.length := by
      have : ¬ i < (t.n : Int) := hig
      omega
    rw [hi, List.take_length] at hacc
    have := hacc o ho
    omega

theorem build_rows4' (a b c d : Sl) : buildOf Tryz.prog 22 4 #[(0, .agg #[.int .i64 1, .slice a.a a.n a.c]), (1, .agg #[.int .i64 2, .slice b.a b.n b.c]), (2, .agg #[.int .i64 3, .slice c.a c.n c.c]), (3, .agg #[.int .i64 4, .slice d.a d.n d.c])] =
    some (43, [.int .i64 1, .slice a.a a.n a.c, .int .i64 2, .slice b.a b.n b.c, .int .i64 3, .slice c.a c.n c.c, .int .i64 4, .slice d.a d.n d.c]) := by kernel_rfl

def exT (a b c d : Sl) : List Rw := [⟨1, a, [0, 0]⟩, ⟨2, b, [3, 4]⟩, ⟨3, c, [0, 1]⟩, ⟨4, d, [30, 40]⟩]

theorem spec.theodolitelaw09_rows {u : H} {K : Sl → H → Prop} (h : ∀ s u' a b c d, u.le u' → Rws u' s (exT a b c d) → K s u') : C.theodolitelaw09_rows u K := by
  apply vc.theodolitelaw09_rows
  refine sem_build (build_ints2 _ _) fun g1 h1 => sem_build (build_ints2 _ _) fun g2 h2 => sem_build (build_ints2 _ _) fun g3 h3 => sem_build (build_ints2 _ _) fun g4 h4 => sem_build (build_rows4' _ _ _ _) fun g5 h5 => ?_
  have i1 := ints_made (H.le.refl u) h1 [0, 0] 3 (by simp)
  have i2 := ints_made (H.le.refl _) h2 [3, 4] 3 (by simp)
  have i3 := ints_made (H.le.refl _) h3 [0, 1] 3 (by simp)
  have i4 := ints_made (H.le.refl _) h4 [30, 40] 3 (by simp)
  have l1 := H.le_ins (u := u) (b := g1) (.cells [Value.int .i64 0, .int .i64 0].toArray 3 (0, 0)) h1
  have l2 := H.le_ins (b := g2) (.cells [Value.int .i64 3, .int .i64 4].toArray 3 (0, 0)) h2
  have l3 := H.le_ins (b := g3) (.cells [Value.int .i64 0, .int .i64 1].toArray 3 (0, 0)) h3
  have l4 := H.le_ins (b := g4) (.cells [Value.int .i64 30, .int .i64 40].toArray 3 (0, 0)) h4
  have m := OwnF.make (k := 2) (H.le.refl _) h5 (cells := [Value.int .i64 1, .slice (some ⟨g1, 0, none⟩) 2 2, .int .i64 2, .slice (some ⟨g2, 0, none⟩) 2 2, .int .i64 3, .slice (some ⟨g3, 0, none⟩) 2 2, .int .i64 4, .slice (some ⟨g4, 0, none⟩) 2 2].toArray) (e := 43) (n := 4) (by omega) rfl
  refine h _ _ ⟨some ⟨g1, 0, none⟩, 2, 2⟩ ⟨some ⟨g2, 0, none⟩, 2, 2⟩ ⟨some ⟨g3, 0, none⟩, 2, 2⟩ ⟨some ⟨g4, 0, none⟩, 2, 2⟩ ?_ ⟨m.own.seg, ?_⟩
  · exact (((l1.trans l2).trans l3).trans l4).trans m.le
  · intro r hr
    simp only [exT, List.mem_cons, List.not_mem_nil, or_false] at hr
    rcases hr with rfl | rfl | rfl | rfl
    · exact i1.mono (((l2.trans l3).trans l4).trans m.le)
    · exact i2.mono ((l3.trans l4).trans m.le)
    · exact i3.mono (l4.trans m.le)
    · exact i4.mono m.le

theorem exT_q (a b c d : Sl) : Qok (exT a b c d) [0, 0] := asked_ok.1 (by kernel_rfl)
theorem exT_top (a b c d : Sl) : topk 2 ((exT a b c d).map (hitOf [0, 0])) = [(1, 0), (3, 1)] := by kernel_rfl
theorem exT_build (a b c d : Sl) : ixErr (exT a b c d) 2 2 20 = 0 := by kernel_rfl

/-- With a budget for all a search tells the first k. -/
theorem ix_enough {u0 u : H} {D : Nat → Prop} {b : Nat} {X : Tr} (h : Ix u0 u D b X) {q : List Int} {k bud : Int} (he : askErr q X.dim k bud = 0) {L : List Rw} (hL : (L.map Rw.pr).Perm (ixRows X)) (hqok : Qok L q) (hb : (L.length : Int) ≤ bud) :
    ixH X q k bud = topk k.toNat (L.map (hitOf q)) ∧ (ixS X q k bud).length ≤ (ixRows X).length := by
  obtain ⟨hv, k1, k2, _, _⟩ := askErr_ok.1 he
  have hlen := hL.length_eq
  rw [List.length_map] at hlen
  obtain ⟨hS, h1, h2⟩ := ix_sound3 h he hL hqok (rgnOf_core (ixR X q k bud))
  have hal := hS.all.length_eq
  rw [List.length_append, List.length_map] at hal
  refine ⟨hS.certain hqok k1 ?_, by omega⟩
  have seenAll : (ixS X q k bud).length = L.length → CertA q k (ixH X q k bud) ((ixR X q k bud).map rgnOf) := fun h2 => by
    left
    generalize (ixR X q k bud).map rgnOf = rest at *
    cases rest with
    | nil => rfl
    | cons r rs =>
      have h3 := (hS.reg r (List.mem_cons_self ..)).2.1
      have h4 := List.length_pos_iff.2 h3
      rw [List.flatMap_cons, List.length_append] at hal
      omega
  rcases h2 with h2 | h2 | h2
  · exact seenAll (by omega)
  · exact seenAll h2
  · exact h2

theorem spec.theodolitelaw09_awake {u : H} {K : Bool → H → Prop} (hTab : TabU u) (h : ∀ u', u.le u' → K true u') : C.theodolitelaw09_awake u K := by
  apply vc.theodolitelaw09_awake
  have q0 : ∀ {w : H} {g : Nat} (hg : w g = none) (x y : Int), Ints (w.ins g (.cells [Value.int .i64 x, .int .i64 y].toArray 3 (0, 0))) ⟨some ⟨g, 0, none⟩, 2, 2⟩ [x, y] := fun {w g} hg x y => ints_made (H.le.refl w) hg [x, y] 3 (by simp)
  refine spec.theodolitelaw09_rows fun s0 u1 a b c d l1 r1 => ?_
  refine spec.ix_Build r1 (hTab.mono l1) ⟨by decide, by decide⟩ (fun hne => absurd (exT_build a b c d) hne) fun _ bt D X u4 hX hrows hdim hlinks => ?_
  have hlen : (ixRows X).length = 4 := by have := hrows.length_eq; simpa [exT] using this
  intro K5 hK5
  refine ⟨fun e => (by cases e), fun _ => ⟨fun e => absurd rfl e, fun _ => spec.ix_Len hX ⟨fun hne => absurd (by rw [hlen]; rfl) hne, fun _ => hK5 _ _ ?_⟩⟩⟩
  clear hK5 K5
  -- a search
  refine sem_build (build_ints2 0 0) fun g1 h1 => ?_
  have m1 := H.le_ins (u := u4) (b := g1) (.cells [Value.int .i64 0, .int .i64 0].toArray 3 (0, 0)) h1
  have hask : askErr [0, 0] X.dim 2 4 = 0 := by rw [hdim]; decide
  refine spec.ix_Search (hX.mono m1) (q0 h1 0 0) (fun hne => absurd hask hne) fun _ s10 s11 s12 rest u14 ha hcore => ?_
  have hhits := (ix_enough hX hask (L := exT a b c d) hrows.symm (exT_q a b c d) (Int.le_refl _)).1
  have e2 : topk (Int.toNat 2) ((exT a b c d).map (hitOf [0, 0])) = [(1, 0), (3, 1)] := exT_top a b c d
  rw [e2] at hhits
  have hoh := ha.h
  rw [hhits] at hoh
  have hX14 := hX.mono (m1.trans ha.le)
  have hD10 : ∀ g, s10.blk = some g → ¬ D g := fun g hg hd => by
    have := ha.h.fresh g hg
    obtain ⟨o, ho⟩ := Option.ne_none_iff_exists'.1 (hX.base.2.2 g hd)
    rw [m1 _ _ ho] at this; cases this
  have hk10 : ∀ g, s10.blk = some g → ∃ o, u14 g = some o := fun g hg => Option.ne_none_iff_exists'.1 (own_known ha.h hg)
  clear hhits hcore ha
  -- puts and a deletion
  refine sem_build (build_ints2 9 9) fun g2 h2 => ?_
  have m2 := H.le_ins (u := u14) (b := g2) (.cells [Value.int .i64 9, .int .i64 9].toArray 3 (0, 0)) h2
  have hid : ∀ x, x ∈ (ixRows X).map (·.1) ↔ x ∈ ([1, 2, 3, 4] : List Int) := fun x => (hrows.map (·.1)).mem_iff
  have t3 : decide ((3 : Int) ∈ (ixRows X).map (·.1)) = true := decide_eq_true ((hid 3).2 (by decide))
  have t3' : decide ((3 : Int) ∉ (ixRows X).map (·.1)) = false := decide_eq_false fun h => h ((hid 3).2 (by decide))
  have hm3 : mayErr 3 [9, 9] X.dim (decide ((3 : Int) ∈ (ixRows X).map (·.1))) (ixRows X).length = 0 := by rw [t3, hdim, hlen]; decide
  have hDn : ∀ {z : H} {g : Nat}, (∀ c, D c → z c ≠ none) → z g = none → ∀ g', (⟨some ⟨g, 0, none⟩, 2, 2⟩ : Sl).blk = some g' → ¬ D g' := fun {z g} hz hg g' hg' hd => by
    have : g = g' := by simpa [Sl.blk] using hg'
    exact hz g' hd (by rw [← this]; exact hg)
  refine spec.ix_Put (hX14.mono m2) (hTab.mono l1) (q0 h2 9 9) (hDn hX14.base.2.2 h2) (fun hne => absurd hm3 hne) fun _ u19 D2 X2 hX2 ht2 hr2 hd2 _ => ?_
  rw [t3']
  have hk19 : ∀ g, s10.blk = some g → ∀ o, u14 g = some o → u19 g = some o ∧ ¬ D2 g := fun g hg o ho => by
    refine ⟨ht2.keep g o (m2 _ _ ho) (hD10 g hg), fun hd => ?_⟩
    rcases ht2.grow g hd with h5 | h5
    · exact hD10 g hg h5
    · rw [m2 _ _ ho] at h5; cases h5
  have hp2 : (ixRows X2).Perm [(3, [9, 9]), (1, [0, 0]), (2, [3, 4]), (4, [30, 40])] := by
    refine hr2.trans (List.Perm.cons _ ?_)
    exact (hrows.filter _).trans (List.Perm.refl _)
  have hid2 : (1 : Int) ∈ (ixRows X2).map (·.1) := (hp2.map (·.1)).mem_iff.2 (by decide)
  refine spec.ix_Delete hX2 (fun hno => absurd hid2 hno) fun _ u22 D3 X3 hX3 ht3 hr3 hd3 _ => ?_
  have hl3 : (ixRows X3).length = 3 := by
    rw [hr3]
    have := (hp2.filter fun x => x.1 != 1).length_eq
    exact this
  have hk22 : ∀ g, s10.blk = some g → ∀ o, u14 g = some o → u22 g = some o := fun g hg o ho => by
    obtain ⟨h5, h6⟩ := hk19 g hg o ho
    exact ht3.keep g o h5 h6
  refine sem_build (build_ints2 1 1) fun g3 h3 => ?_
  have m3 := H.le_ins (u := u22) (b := g3) (.cells [Value.int .i64 1, .int .i64 1].toArray 3 (0, 0)) h3
  have hm0 : mayErr 0 [1, 1] X3.dim (decide ((0 : Int) ∈ (ixRows X3).map (·.1))) (ixRows X3).length = 50 := by unfold mayErr; rw [if_pos (by omega)]
  have hDn3 : ∀ g', (⟨some ⟨g3, 0, none⟩, 2, 2⟩ : Sl).blk = some g' → ¬ D3 g' := fun g' hg' hd => by
    have : g3 = g' := by simpa [Sl.blk] using hg'
    exact hX3.base.2.2 g' hd (by rw [← this]; exact h3)
  refine spec.ix_Put (hX3.mono m3) (hTab.mono l1) (q0 h3 1 1) hDn3 (fun _ => ?_) fun he => by rw [hm0] at he; cases he
  rw [hm0]
  have hfin := h _ ((l1.trans (hX3.base.1)).trans m3)
  have hts : Hts _ s10 [((1 : Int), (0 : Int)), (3, 1)] := Seg.else hoh.hts fun g o hg ho => m3 _ _ (hk22 g hg o ho)
  intro K28 hK28
  refine ⟨fun _ => ⟨fun _ => ⟨fun _ => ⟨fun _ => ⟨fun _ => ⟨fun _ => spec.ix_Len (hX3.mono m3) ?_, fun e => (by cases e)⟩, fun e => (by cases e)⟩, fun e => absurd rfl e⟩, fun e => absurd rfl e⟩, fun e => absurd rfl e⟩, fun e => absurd rfl e⟩
  have kt : ∀ bb : Bool, bb = true → K bb (u22.ins g3 (.cells [Value.int .i64 1, .int .i64 1].toArray 3 (0, 0))) := fun bb hb => by rw [hb]; exact hfin
  refine hK28 _ _ ⟨fun _ => ?_, fun hb => ?_⟩
  · have hn2 := hts.len
    refine ⟨fun _ => ?_, fun hne => absurd (by rw [hn2]; rfl) hne⟩
    obtain ⟨p, hp, x, hx, c0, c1, c2⟩ := hts.at (x := 0) (by omega) (by rw [hn2]; decide)
    obtain ⟨p', hp', y, hy, d0, d1, d2⟩ := hts.at (x := 1) (by omega) (by rw [hn2]; decide)
    have hpp : p' = p := by rw [hp] at hp'; exact (Option.some.inj hp').symm
    subst hpp
    have hx' : x = (1, 0) := by simpa using hx.symm
    have hy' : y = (3, 1) := by simpa using hy.symm
    subst hx'; subst hy'
    refine ⟨_, hp, ⟨by omega, by rw [hn2]; decide⟩, _, c0, _, c1, _, c2, fun _ => ⟨_, hp, ⟨by omega, by rw [hn2]; decide⟩, _, d0, _, d1, _, d2, kt _ ?_⟩, fun hne => absurd ⟨rfl, rfl, rfl⟩ hne⟩
    exact decide_eq_true ⟨rfl, rfl, rfl⟩
  · rw [hl3] at hb
    simp at hb

end Go.Proofs.YtljbcihbgeiacaaGreat

/- VcOpen2 -/
namespace Go.Proofs.YtljbcihbgeiacaaGreat
open Go.ChangeShapes Go.WideShapes Go.ChangeAt Go.RowKit

theorem cellsOp : Tryz.prog.cellsOf 45 = 7 := by kernel_rfl
theorem cellsHow : Tryz.prog.cellsOf 25 = 3 := by kernel_rfl
theorem bytesOp : Tryz.prog.bytesOf 45 = 88 := by kernel_rfl

section
variable {H' : Type} {enc : TypeId × Value → H'}

/-- One row, opened. -/
theorem open_row1 {W : World} {cs : List Value} {fuel : Nat} {x : DataW H' × List MemPlace} (h : DataW.trod enc Tryz.prog W 0 (fun _ => true) true fuel 43 cs = some x) (hw : ∀ n ∈ x.1.weights Tryz.prog 43, n ≤ reachBytes) :
    ∃ (i : Int) (s : Sl) (v : List Int), cs = [.int .i64 i, .slice s.a s.n s.c] ∧ Ints (whole W) s v ∧ v.length ≤ 17592186044416 := by
  obtain ⟨y0, y1, k, hxy, hlen, u0, u1⟩ := trod_struct2 Tryz.underlying43 h
  rw [cells41o] at hlen
  match cs, hlen with
  | [v0, v1], _ =>
    simp only [cells3o, cells23o, List.drop, List.take] at u0 u1
    obtain ⟨q, e0, _, _⟩ := DataW.trod_int Tryz.underlying3 u0
    simp only [List.cons.injEq, and_true] at e0
    subst e0
    obtain ⟨s, rfl⟩ := cells_one u1
    obtain ⟨zs, hz, hzl⟩ := open_q u1 (fun n hn => hw n (by
      rw [hxy]
      simp only [DataW.weights, show Tryz.prog.underlying 43 = some _ from Tryz.underlying43]
      simp only [List.map_cons, List.map_nil, DataW.weightsEach, List.mem_append]
      exact .inr (.inl hn)))
    exact ⟨q, s, zs, rfl, hz, hzl⟩

/-- One call, opened. -/
theorem open_op1 {W : World} {cs : List Value} {fuel : Nat} {x : DataW H' × List MemPlace} (h : DataW.trod enc Tryz.prog W 0 (fun _ => true) true fuel 45 cs = some x) (hw : ∀ n ∈ x.1.weights Tryz.prog 45, n ≤ reachBytes) :
    ∃ o : Cll, cs = encO o ∧ Ints (whole W) o.rv o.v ∧ Ints (whole W) o.qs o.q ∧ o.v.length ≤ 17592186044416 ∧ o.q.length ≤ 17592186044416 := by
  obtain ⟨xs, n, _, hxy, hlen, hxl, hf⟩ := DataW.trod_struct Tryz.underlying45 h
  rw [cellsOp] at hlen
  match xs, hxl, cs, hlen with
  | [y0, y1, y2, y3, y4, y5], _, [v0, v1, v2, v3, v4, v5, v6], _ =>
    have f0 : DataW.trod enc Tryz.prog W 0 (fun _ => true) true n 3 (([v0, v1, v2, v3, v4, v5, v6].drop 0).take (Tryz.prog.cellsOf 3)) = some y0 := hf 0 _ rfl
    have f1 : DataW.trod enc Tryz.prog W 0 (fun _ => true) true n 3 (([v0, v1, v2, v3, v4, v5, v6].drop 1).take (Tryz.prog.cellsOf 3)) = some y1 := hf 1 _ rfl
    have f2 : DataW.trod enc Tryz.prog W 0 (fun _ => true) true n 3 (([v0, v1, v2, v3, v4, v5, v6].drop 2).take (Tryz.prog.cellsOf 3)) = some y2 := hf 2 _ rfl
    have f3 : DataW.trod enc Tryz.prog W 0 (fun _ => true) true n 3 (([v0, v1, v2, v3, v4, v5, v6].drop 3).take (Tryz.prog.cellsOf 3)) = some y3 := hf 3 _ rfl
    have f4 : DataW.trod enc Tryz.prog W 0 (fun _ => true) true n 43 (([v0, v1, v2, v3, v4, v5, v6].drop 4).take (Tryz.prog.cellsOf 43)) = some y4 := hf 4 _ rfl
    have f5 : DataW.trod enc Tryz.prog W 0 (fun _ => true) true n 41 (([v0, v1, v2, v3, v4, v5, v6].drop 6).take (Tryz.prog.cellsOf 41)) = some y5 := hf 5 _ rfl
    simp only [cells3o, cells23o, cells41o, List.drop, List.take] at f0 f1 f2 f3 f4 f5
    obtain ⟨q0, e0, _, _⟩ := DataW.trod_int Tryz.underlying3 f0
    obtain ⟨q1, e1, _, _⟩ := DataW.trod_int Tryz.underlying3 f1
    obtain ⟨q2, e2, _, _⟩ := DataW.trod_int Tryz.underlying3 f2
    obtain ⟨q3, e3, _, _⟩ := DataW.trod_int Tryz.underlying3 f3
    have hin : ∀ {t : TypeId} {y : DataW H' × List MemPlace}, ∀ m : Nat, m ∈ y.1.weights Tryz.prog t → (t = 43 ∧ y = y4 ∨ t = 41 ∧ y = y5) → m ≤ reachBytes := fun m hm hc => hw m (by
      rw [hxy]
      simp only [DataW.weights, show Tryz.prog.underlying 45 = some _ from Tryz.underlying45]
      simp only [List.map_cons, List.map_nil, DataW.weightsEach, List.mem_append]
      rcases hc with ⟨rfl, rfl⟩ | ⟨rfl, rfl⟩
      · exact .inr (.inr (.inr (.inr (.inl hm))))
      · exact .inr (.inr (.inr (.inr (.inr (.inl hm))))))
    obtain ⟨ri, rs, rv, er, hr, hrl⟩ := open_row1 f4 (fun m hm => hin m hm (.inl ⟨rfl, rfl⟩))
    obtain ⟨qs, eq⟩ := cells_one f5
    subst eq
    obtain ⟨zs, hz, hzl⟩ := open_q f5 (fun m hm => hin m hm (.inr ⟨rfl, rfl⟩))
    simp only [List.cons.injEq, and_true] at e0 e1 e2 e3 er
    obtain ⟨er0, er1⟩ := er
    subst e0 e1 e2 e3 er0 er1
    exact ⟨⟨q0, q1, q2, q3, ri, rs, rv, qs, zs⟩, rfl, hr, hz, hrl, hzl⟩

/-- A way of building, opened. -/
theorem open_how {W : World} {cs : Array Value} {fuel : Nat} {x : DataW H' × List MemPlace} (h : DataW.trod enc Tryz.prog W 0 (fun _ => true) true fuel 25 cs.toList = some x) :
    ∃ a b s : Int, U64 s ∧ cs = #[.int .i64 a, .int .i64 b, .int .u64 s] := by
  obtain ⟨y0, y1, y2, k, _, hlen, u0, u1, u2⟩ := Deep.trod_struct3 Tryz.underlying25 h
  rw [cellsHow] at hlen
  obtain ⟨cl⟩ := cs
  change cl.length = 3 at hlen
  match cl, hlen with
  | [v0, v1, v2], _ =>
    simp only [cells3o, cells24o, List.drop, List.take] at u0 u1 u2
    obtain ⟨m0, e0, _, _⟩ := DataW.trod_int Tryz.underlying3 u0
    obtain ⟨m1, e1, _, _⟩ := DataW.trod_int Tryz.underlying3 u1
    obtain ⟨m2, e2, _, w2⟩ := DataW.trod_int Tryz.underlying23 u2
    simp only [List.cons.injEq, and_true] at e0 e1 e2
    subst e0 e1 e2
    refine ⟨m0, m1, m2, ?_, rfl⟩
    simp only [Lit.wf, Bool.and_eq_true, decide_eq_true_eq] at w2
    have g1 : IntKind.min .u64 = 0 := by decide
    have g2 : IntKind.max .u64 = 18446744073709551615 := by decide
    rw [g1, g2] at w2
    exact ⟨w2.1, by omega⟩

instance : Inhabited Cll := ⟨⟨0, 0, 0, 0, 0, ⟨none, 0, 0⟩, [], ⟨none, 0, 0⟩, []⟩⟩

/-- Calls, opened. -/
theorem open_ops {W : World} {a : Option Addr} {len cap fuel : Nat} {x : DataW H' × List MemPlace} (h : DataW.trod enc Tryz.prog W 0 (fun _ => true) true fuel 39 [.slice a len cap] = some x) (hw : ∀ n ∈ x.1.weights Tryz.prog 39, n ≤ reachBytes) :
    ∃ l : List Cll, Ops (whole W) ⟨a, len, cap⟩ l ∧ (∀ o ∈ l, o.v.length ≤ 17592186044416 ∧ o.q.length ≤ 17592186044416) ∧ len ≤ 17592186044416 := by
  have hr : reachBytes = 140737488351232 := by decide
  rcases Deep.open_slice Tryz.underlying39 h with ⟨hcs, _⟩ | ⟨p, l, c, m, n, D, Pl, hcs, hb, hl, hm, hmm, hx, hel⟩
  · simp only [List.cons.injEq, Value.slice.injEq, and_true] at hcs
    obtain ⟨rfl, rfl, rfl⟩ := hcs
    exact ⟨[], ⟨⟨rfl, Nat.le_refl _, by simp, .inl rfl⟩, fun _ h => (by cases h)⟩, fun _ h => (by cases h), by omega⟩
  simp only [List.cons.injEq, Value.slice.injEq, and_true] at hcs
  obtain ⟨rfl, rfl, rfl⟩ := hcs
  simp only [if_true] at hmm
  subst hmm
  rw [maxLen_eq] at hm
  have hwt : ∀ k, k ∈ (((List.range len).map D).length + ((List.range (m - len)).map fun j => D (len + j)).length) * Tryz.prog.bytesOf 45 :: (DataW.weightsAll Tryz.prog 45 ((List.range len).map D) ++ DataW.weightsAll Tryz.prog 45 ((List.range (m - len)).map fun j => D (len + j))) → k ≤ reachBytes := by
    intro k hk
    refine hw k ?_
    rw [hx]
    simp only [DataW.weights, show Tryz.prog.underlying 39 = some (.slice 45) from Tryz.underlying39]
    exact hk
  have hcb : len * 32 ≤ reachBytes := by
    have := hwt _ (List.mem_cons_self ..)
    rw [bytesOp] at this
    simp at this
    have e : len + (m - len) = m := by omega
    omega
  have each : ∀ i, i < len → ∃ o : Cll, (∀ j, j < 7 → W.cell? ((p.add (i * 7)).add j) = (encO o)[j]?) ∧ (Ints (whole W) o.rv o.v ∧ Ints (whole W) o.qs o.q) ∧ o.v.length ≤ 17592186044416 ∧ o.q.length ≤ 17592186044416 := by
    intro i hi
    obtain ⟨cs', h1, h2⟩ := hel i (by omega)
    rw [cellsOp] at h1
    obtain ⟨_, hlen, hcell⟩ := World.cells?_some h1
    have hwi : ∀ n ∈ (D i).weights Tryz.prog 45, n ≤ reachBytes := fun n hn => hwt n (List.mem_cons_of_mem _ (List.mem_append_left _ (weights_all (i := i) (d := D i) (by simp [hi]) n hn)))
    obtain ⟨o, rfl, hv, hq, hvl, hql⟩ := open_op1 h2 hwi
    exact ⟨o, hcell, ⟨hv, hq⟩, hvl, hql⟩
  obtain ⟨f, hf⟩ := Deep.choose_lt each
  have hfl : ((List.range len).map f).length = len := by simp
  refine ⟨(List.range len).map f, ⟨⟨?_, hl, hm, .inr ⟨p, rfl, fun j v e => ?_⟩⟩, fun r hr => ?_⟩, fun r hr => ?_, by omega⟩
  · rw [flat_len encO_len, hfl]
  · have hj : j < len * 7 := by
      have := (List.getElem?_eq_some_iff.1 e).1
      rw [flat_len encO_len, hfl] at this
      exact this
    have e1 : j = j / 7 * 7 + j % 7 := by omega
    have hd : j / 7 < len := by omega
    rw [whole_cell]
    rw [e1, flat_get encO_len _ _ _ (Nat.mod_lt _ (by decide))] at e
    rw [List.getElem?_map, List.getElem?_range hd] at e
    simp only [Option.map_some, Option.bind_some] at e
    obtain ⟨g0, _⟩ := hf (j / 7) hd
    rw [e1, ← Addr.add_add', g0 _ (Nat.mod_lt _ (by decide)), e]
  · obtain ⟨i, hi, rfl⟩ := List.mem_map.1 hr
    exact (hf i (by simpa using hi)).2.1
  · obtain ⟨i, hi, rfl⟩ := List.mem_map.1 hr
    exact (hf i (by simpa using hi)).2.2

end

end Go.Proofs.YtljbcihbgeiacaaGreat

/- VcLawT3 -/
namespace Go.Proofs.YtljbcihbgeiacaaGreat

/-- A table that lies apart from blocks D. -/
structure TabSt (ub u : H) (D : Nat → Prop) (n : Nat) (d : Int) (L : List Rw) : Prop where
  ex : ∃ uT, uT.le u ∧ (∀ c, D c → uT c = none) ∧ TabAt uT n d L ∧ ub.le uT ∧ ub n = none

theorem TabSt.le {ub u : H} {D : Nat → Prop} {n : Nat} {d : Int} {L : List Rw} (h : TabSt ub u D n d L) : ub.le u := by
  obtain ⟨uT, h1, _, _, h4, _⟩ := h.ex
  exact h4.trans h1

theorem TabSt.mono {ub u u' : H} {D : Nat → Prop} {n : Nat} {d : Int} {L : List Rw} (h : TabSt ub u D n d L) (hu : u.le u') : TabSt ub u' D n d L := by
  obtain ⟨uT, h1, h2, h3, h4, h5⟩ := h.ex
  exact ⟨uT, h1.trans hu, h2, h3, h4, h5⟩

theorem TabSt.rows {ub u : H} {D : Nat → Prop} {n : Nat} {d : Int} {L : List Rw} (h : TabSt ub u D n d L) : ∃ s : Sl, u n = some (.cells #[.int .i64 d, .slice s.a s.n s.c] 91 (0, 0)) ∧ Rws u s L := by
  obtain ⟨uT, h1, _, h3, _, _⟩ := h.ex
  obtain ⟨s, v, hn, hv, _, hR⟩ := h3.ex
  exact ⟨s, h1 _ _ hn, hR.mono (hv.trans h1)⟩

theorem TabSt.rise {ub u : H} {D : Nat → Prop} {n : Nat} {d : Int} {L : List Rw} (h : TabSt ub u D n d L) : (L.map Rw.pr).Pairwise fun a b => a.1 < b.1 := by
  obtain ⟨uT, _, _, h3, _, _⟩ := h.ex
  exact h3.rise

theorem TabSt.nodup {ub u : H} {D : Nat → Prop} {n : Nat} {d : Int} {L : List Rw} (h : TabSt ub u D n d L) : (L.map (·.id)).Nodup := by
  obtain ⟨uT, _, _, h3, _, _⟩ := h.ex
  rw [List.nodup_iff_pairwise_ne, List.pairwise_map]
  exact h3.srt.imp fun h => Int.ne_of_lt h

/-- The tree turned: the table lies apart from it still. -/
theorem TabSt.turn {ub u u' : H} {D D' : Nat → Prop} {n : Nat} {d : Int} {L : List Rw} (h : TabSt ub u D n d L) (k : IxTurn u D u' D') : TabSt ub u' D' n d L := by
  obtain ⟨uT, h1, h2, h3, h4, h5⟩ := h.ex
  obtain ⟨k1, k2⟩ := k.apart h1 h2
  exact ⟨uT, k1, k2, h3, h4, h5⟩

theorem spec.tabPut {ub u : H} {D : Nat → Prop} {n : Nat} {d id : Int} {L : List Rw} {t : Sl} {q : List Int} {K : Bool → Int → H → Prop} (h : TabSt ub u D n d L) (hDu : ∀ c, D c → u c ≠ none) (hl : L.length ≤ 1000000) (ht : Ints ub t q)
    (hbad : mayErr id q d (decide (id ∈ L.map (·.id))) L.length ≠ 0 → ∀ u', TabSt ub u' D n d L → (∀ c o, u c = some o → D c → u' c = some o) → K false (mayErr id q d (decide (id ∈ L.map (·.id))) L.length) u')
    (hok : mayErr id q d (decide (id ∈ L.map (·.id))) L.length = 0 → ∀ u' L', TabSt ub u' D n d L' → (∀ c o, u c = some o → D c → u' c = some o) → L'.map Rw.pr = tputP (L.map Rw.pr) id q → K (decide (id ∉ L.map (·.id))) 0 u') : C.theodoliteref05_Table__Put (some ⟨n, 0, none⟩) id t u K := by
  obtain ⟨uT, h1, h2, h3, h4, h5⟩ := h.ex
  let K0 : Bool → Int → H → Prop := fun b e v' => ∃ L', TabAt v' n d L' ∧ ub.le v' ∧ ((b = false ∧ e = mayErr id q d (decide (id ∈ L.map (·.id))) L.length ∧ mayErr id q d (decide (id ∈ L.map (·.id))) L.length ≠ 0 ∧ L' = L) ∨
    (b = decide (id ∉ L.map (·.id)) ∧ e = 0 ∧ mayErr id q d (decide (id ∈ L.map (·.id))) L.length = 0 ∧ L'.map Rw.pr = tputP (L.map Rw.pr) id q))
  have hc : C.theodoliteref05_Table__Put (some ⟨n, 0, none⟩) id t uT K0 := spec.theodoliteref05_Table__Put h3 hl (ht.mono h4) (fun hne => ⟨L, h3, h4, .inl ⟨rfl, rfl, hne, rfl⟩⟩)
    fun he u' L' hT' hp hk => ⟨L', hT', fun c o hc => hk c o (h4 c o hc) (fun e => by rw [e, h5] at hc; cases hc), .inr ⟨rfl, rfl, he, hp⟩⟩
  refine hc.frame h1 ?_
  rintro b e v0' v' hf ⟨L', hT', hub', hcase⟩
  have hst : TabSt ub v' D n d L' := ⟨v0', hf.le, fun c hc => by
    cases hx : u c with
    | none => exact absurd hx (hDu c hc)
    | some o => exact (hf.out c o (h2 c hc) hx).1, hT', hub', h5⟩
  have hkeep : ∀ c o, u c = some o → D c → v' c = some o := fun c o hc hd => (hf.out c o (h2 c hd) hc).2
  rcases hcase with ⟨rfl, rfl, hne, rfl⟩ | ⟨rfl, rfl, he, hp⟩
  · exact hbad hne v' hst hkeep
  · exact hok he v' L' hst hkeep hp

theorem spec.tabDelete {ub u : H} {D : Nat → Prop} {n : Nat} {d id : Int} {L : List Rw} {K : Bool → H → Prop} (h : TabSt ub u D n d L) (hDu : ∀ c, D c → u c ≠ none) (hl : L.length ≤ 1000000)
    (hno : (∀ r ∈ L, r.id ≠ id) → ∀ u', TabSt ub u' D n d L → (∀ c o, u c = some o → D c → u' c = some o) → K false u')
    (hyes : (∃ r ∈ L, r.id = id) → ∀ u' L', TabSt ub u' D n d L' → (∀ c o, u c = some o → D c → u' c = some o) → L'.map Rw.pr = tdelP (L.map Rw.pr) id → K true u') : C.theodoliteref05_Table__Delete (some ⟨n, 0, none⟩) id u K := by
  obtain ⟨uT, h1, h2, h3, h4, h5⟩ := h.ex
  let K0 : Bool → H → Prop := fun b v' => ∃ L', TabAt v' n d L' ∧ ub.le v' ∧ ((b = false ∧ (∀ r ∈ L, r.id ≠ id) ∧ L' = L) ∨ (b = true ∧ (∃ r ∈ L, r.id = id) ∧ L'.map Rw.pr = tdelP (L.map Rw.pr) id))
  have hc : C.theodoliteref05_Table__Delete (some ⟨n, 0, none⟩) id uT K0 := spec.theodoliteref05_Table__Delete h3 hl (fun hno => ⟨L, h3, h4, .inl ⟨rfl, hno, rfl⟩⟩)
    fun he u' L' hT' hp hk => ⟨L', hT', fun c o hc => hk c o (h4 c o hc) (fun e => by rw [e, h5] at hc; cases hc), .inr ⟨rfl, he, hp⟩⟩
  refine hc.frame h1 ?_
  rintro b v0' v' hf ⟨L', hT', hub', hcase⟩
  have hst : TabSt ub v' D n d L' := ⟨v0', hf.le, fun c hc => by
    cases hx : u c with
    | none => exact absurd hx (hDu c hc)
    | some o => exact (hf.out c o (h2 c hc) hx).1, hT', hub', h5⟩
  have hkeep : ∀ c o, u c = some o → D c → v' c = some o := fun c o hc hd => (hf.out c o (h2 c hd) hc).2
  rcases hcase with ⟨rfl, hne, rfl⟩ | ⟨rfl, he, hp⟩
  · exact hno hne v' hst hkeep
  · exact hyes he v' L' hst hkeep hp

theorem spec.tabOf {ub u : H} {D : Nat → Prop} {s : Sl} {l : List Rw} {d : Int} {K : Option Addr → H → Prop} (hle : ub.le u) (hDb : ∀ c, D c → ub c = none) (hDu : ∀ c, D c → u c ≠ none) (hs : Rws ub s l) (hl : Rok l d)
    (hK : ∀ n u' L, TabSt ub u' D n d L → (∀ c o, u c = some o → D c → u' c = some o) → (L.map Rw.pr).Perm (l.map Rw.pr) → K (some ⟨n, 0, none⟩) u') : C.theodoliteref05_Of s d u K := by
  let K0 : Option Addr → H → Prop := fun p v' => ∃ n L, p = some ⟨n, 0, none⟩ ∧ ub n = none ∧ ub.le v' ∧ TabAt v' n d L ∧ (L.map Rw.pr).Perm (l.map Rw.pr)
  have hc : C.theodoliteref05_Of s d ub K0 := spec.theodoliteref05_Of hs hl fun n u' L h1 h2 h3 h4 => ⟨n, L, rfl, h1, h2, h3, h4⟩
  refine hc.frame hle ?_
  rintro p v0' v' hf ⟨n, L, rfl, h1, h2, h3, h4⟩
  refine hK n v' L ⟨v0', hf.le, fun c hc => ?_, h3, h2, h1⟩ (fun c o hc hd => (hf.out c o (hDb c hd) hc).2) h4
  cases hx : u c with
  | none => exact absurd hx (hDu c hc)
  | some o => exact (hf.out c o (hDb c hc) hx).1

/-- A tree and a table of the same rows. -/
structure TSt (ub u : H) (D : Nat → Prop) (b : Nat) (X : Tr) (n : Nat) (L : List Rw) : Prop where
  ix : Ix ub u D b X
  tab : TabSt ub u D n X.dim L
  perm : (ixRows X).Perm (L.map Rw.pr)
  ok : Rok L X.dim

theorem TSt.mono {ub u u' : H} {D : Nat → Prop} {b : Nat} {X : Tr} {n : Nat} {L : List Rw} (h : TSt ub u D b X n L) (hu : u.le u') : TSt ub u' D b X n L := ⟨h.ix.mono hu, h.tab.mono hu, h.perm, h.ok⟩
theorem TSt.le {ub u : H} {D : Nat → Prop} {b : Nat} {X : Tr} {n : Nat} {L : List Rw} (h : TSt ub u D b X n L) : ub.le u := h.tab.le

theorem TSt.ids {ub u : H} {D : Nat → Prop} {b : Nat} {X : Tr} {n : Nat} {L : List Rw} (h : TSt ub u D b X n L) (id : Int) : id ∈ (ixRows X).map (·.1) ↔ id ∈ L.map (·.id) := by
  rw [ids_pr]
  exact (h.perm.map _).mem_iff

theorem TSt.len {ub u : H} {D : Nat → Prop} {b : Nat} {X : Tr} {n : Nat} {L : List Rw} (h : TSt ub u D b X n L) : (ixRows X).length = L.length := by
  have := h.perm.length_eq
  simpa using this

theorem spec.theodolitelaw09_looks {ub u : H} {D : Nat → Prop} {b : Nat} {X : Tr} {n : Nat} {L : List Rw} {K : Bool → H → Prop} (h : TSt ub u D b X n L) (hK : ∀ u', u.le u' → K true u') :
    C.theodolitelaw09_looks (some ⟨b, 0, none⟩) (some ⟨n, 0, none⟩) u K := by
  apply vc.theodolitelaw09_looks
  refine spec.ix_Rows h.ix fun s ls u1 hR hp hs => ?_
  intro K2 hK2
  have hu1 : u.le u1 := hR.own.le
  obtain ⟨ts, hn, hRw⟩ := (h.mono hu1).tab.rows
  have hlen := hRw.len
  have c1 : H.cell? u1 ((⟨n, 0, none⟩ : Addr).add 1) = some (.slice ts.a ts.n ts.c) := H.cell?_of hn 1
  refine ⟨_, rfl, ts, c1, ?_⟩
  refine spec.theodolitekeep_Rows hR.rws hRw ?_
  have hpr : (ls.map Rw.pr).Perm (L.map Rw.pr) := hp.trans h.perm
  have hrise : (ls.map Rw.pr).Pairwise fun a b => a.1 < b.1 := by
    rw [List.pairwise_map]
    have hnd : (ls.map (·.id)).Nodup := by
      rw [ids_pr]
      exact ((hpr.map (·.1)).nodup_iff).2 (by rw [← ids_pr]; exact h.tab.nodup)
    rw [List.nodup_iff_pairwise_ne, List.pairwise_map] at hnd
    refine (hs.and hnd).imp fun {x y} hxy => ?_
    have := hxy.1
    have := hxy.2
    show x.id < y.id
    omega
  have e : ls.map Rw.pr = L.map Rw.pr := pr_rise_eq hrise h.tab.rise hpr
  have fin : ∀ bb : Bool, bb = true → K2 bb u1 := fun bb hb => hK2 bb u1 (spec.theodolitekeep_SpoilRows hR fun u' hle _ => by rw [hb]; exact hK u' hle)
  have len : ∀ {A : Int → H → Prop}, A (L.length : Int) u1 → C.ivf_Tree__Len (some ⟨b, 0, none⟩) u1 A := fun hA => spec.ix_Len (h.ix.mono hu1) (by rw [h.len]; exact hA)
  refine ⟨fun _ => ⟨_, rfl, len ⟨ts, c1, fin _ (decide_eq_true (by omega))⟩, ts, c1, len (fin _ (decide_eq_true (by omega)))⟩, fun hb => ?_⟩
  rw [decide_eq_true e] at hb
  cases hb

theorem OwnF.again {u1 u2 v u3 : H} {e k : Nat} {s : Sl} {xs : List Value} (h : OwnF u1 u2 e k s xs) (hv : v.le u1) (h3 : v.le u3) (hk : ∀ b o, u1 b = none → u2 b = some o → u3 b = some o) : OwnF v u3 e k s xs :=
  ⟨h.own.le fun b o hb hu => hk b o (h.fresh b hb) hu, h3, fun g hg => by
    cases hx : v g with
    | none => rfl
    | some o => have := hv _ _ hx; rw [h.fresh g hg] at this; cases this⟩

theorem AnsO.again {u1 u2 v u3 : H} {sh ss sr : Sl} {hits : List Hit} {seen : List Int} {rest : List Rgn} (h : AnsO u1 u2 sh ss sr hits seen rest) (hv : v.le u1) (h3 : v.le u3) (hk : ∀ b o, u1 b = none → u2 b = some o → u3 b = some o) : AnsO v u3 sh ss sr hits seen rest :=
  ⟨h.h.again hv h3 hk, h.s.again hv h3 hk, h.r.again hv h3 hk, fun r hr => ⟨(h.g r hr).l.again hv h3 hk, (h.g r hr).h.again hv h3 hk, (h.g r hr).i.again hv h3 hk⟩, h.far⟩

theorem spec.theodolitelaw09_searches {ub u : H} {D : Nat → Prop} {b : Nat} {X : Tr} {n : Nat} {L : List Rw} {kind id k bud rid : Int} {rv qs : Sl} {q : List Int} {K : Bool → H → Prop} (h : TSt ub u D b X n L) (hq : Ints ub qs q) (hb : q.length ≤ 1000000)
    (hK : ∀ u', u.le u' → K true u') : C.theodolitelaw09_searches (some ⟨b, 0, none⟩) (some ⟨n, 0, none⟩) kind id k bud rid rv qs u K := by
  apply vc.theodolitelaw09_searches
  refine spec.theodolitekeep_Lend (hq.mono h.le) hb fun g hg => ?_
  have l1 : u.le (u.ins g (lentObj q)) := H.le_ins _ hg
  have h1 := h.mono l1
  refine spec.ix_Search h1.ix (lent_ints (H.ins_same _ _ _) hb) (fun hne u2 l2 => ?_) (fun he sh ss sr rest u2 ha hr => ?_)
  · intro K7 hK7
    refine spec.theodolitekeep_Back (l2 _ _ (H.ins_same _ _ _)) (hq.mono ((h1.le).trans l2)) hb fun o => ⟨fun hx => absurd rfl hx, fun _ => ?_⟩
    have l3 : u.le (u2.ins g o) := fun c x hc => by
      rw [H.ins_other _ _ (fun e => by rw [e, hg] at hc; cases hc)]
      exact (l1.trans l2) c x hc
    obtain ⟨ts, hn, _⟩ := (h.mono l3).tab.rows
    have c0 : H.cell? (u2.ins g o) ⟨n, 0, none⟩ = some (.int .i64 X.dim) := H.cell?_of hn 0
    have k7 : K7 false (u2.ins g o) := hK7 false _ ⟨fun _ => spec.theodolitekeep_Answer (AnsR.nil _) (AnsR.nil _) rfl (hK _ l3), fun e0 => absurd e0 hne⟩
    have leaf : C.theodoliteref05_Searched qs X.dim k bud (u2.ins g o) (fun (x : Int) (v : H) => ((¬ (askErr q X.dim k bud = x)) → K false v) ∧ ((askErr q X.dim k bud = x) → K7 false v)) :=
      spec.theodoliteref05_Searched (hq.mono (h.le.trans l3)) ⟨fun hx => absurd rfl hx, fun _ => k7⟩
    refine ⟨_, rfl, ?_⟩
    repeat' (first | exact leaf | refine ⟨_, c0, ?_⟩ | apply And.intro)
  · intro K7 hK7
    refine spec.theodolitekeep_Back (ha.le _ _ (H.ins_same _ _ _)) (hq.mono ((h1.le).trans ha.le)) hb fun o => ⟨fun hx => absurd rfl hx, fun _ => ?_⟩
    have l3 : u.le (u2.ins g o) := fun c x hc => by
      rw [H.ins_other _ _ (fun e => by rw [e, hg] at hc; cases hc)]
      exact (l1.trans ha.le) c x hc
    have h3 := h.mono l3
    have hub3 := h3.le
    obtain ⟨ts, hn, hR⟩ := h3.tab.rows
    have c0 : H.cell? (u2.ins g o) ⟨n, 0, none⟩ = some (.int .i64 X.dim) := H.cell?_of hn 0
    have ha3 : AnsO u (u2.ins g o) sh ss sr (ixH X q k bud) (ixS X q k bud) rest := ha.again l1 l3 fun c x h1 h2 => by
      rw [H.ins_other _ _ (fun e => by rw [e, H.ins_same] at h1; cases h1)]
      exact h2
    obtain ⟨hv, k1, k2, b1, b2⟩ := askErr_ok.1 he
    obtain ⟨_, _, hql, hvq⟩ := vcheck_ok hv
    have hqok : Qok L q := ⟨hvq, by rw [hql]; exact h.ok⟩
    have obeys : ∀ {v : H} {K' : Bool → H → Prop} {sh ss sr : Sl} {rest : List Rgn}, (u2.ins g o).le v → AnsR v sh ss sr (ixH X q k bud) (ixS X q k bud) rest → rest.map Rgn.core = ixR X q k bud → K' true v → C.theodoliteref05_Obeys ts qs k bud sh ss sr v K' := fun {v K' sh ss sr rest} hle hr hcore hK' => by
      obtain ⟨s1, s2, s3⟩ := ix_sound3 h.ix he h.perm.symm hqok hcore
      exact spec.obeysC (hR.mono hle) (hq.mono (hub3.trans hle)) hqok k1 hr s1 (s1.dok hqok) s2 s3 hK'
    have k7 : K7 false (u2.ins g o) := by
      refine hK7 false _ ⟨fun hx => absurd rfl hx, fun _ => ⟨_, rfl, ts, H.cell?_of hn 1, obeys (H.le.refl _) ha3.read hr ⟨fun hx => absurd rfl hx, fun _ => ?_⟩⟩⟩
      refine spec.ix_Search h3.ix (hq.mono hub3) (fun hne => absurd he hne) fun _ sh' ss' sr' rest' u5 hb' hr' => ?_
      refine spec.theodolitekeep_Answer (ha3.mono hb'.le).read hb'.read (hr.trans hr'.symm) ?_
      refine spec.theodolitekeep_Spoil (ha3.mono hb'.le) (ix_sound3 h.ix he h.perm.symm hqok hr).1.co fun u6 l6 hk6 => ⟨fun _ => ?_, fun e => (by cases e)⟩
      have hb6 := hb'.else (u' := u6) fun x o' e1 e2 => hk6 x o' e2 fun s hs hg' => ha3.known s hs x hg' e1
      have h6 := h.mono l6
      obtain ⟨ts', hn', hR'⟩ := h6.tab.rows
      obtain ⟨s1, s2, s3⟩ := ix_sound3 h.ix he h.perm.symm hqok hr'
      exact ⟨_, rfl, ts', H.cell?_of hn' 1, spec.obeysC hR' (hq.mono h6.le) hqok k1 hb6 s1 (s1.dok hqok) s2 s3 (hK _ l6)⟩
    have leaf : C.theodoliteref05_Searched qs X.dim k bud (u2.ins g o) (fun (x : Int) (v : H) => ((¬ ((0 : Int) = x)) → K false v) ∧ (((0 : Int) = x) → K7 false v)) := by
      refine spec.theodoliteref05_Searched (hq.mono hub3) ?_
      rw [show (if vcheck q X.dim ≠ 0 then vcheck q X.dim else if k < 1 ∨ 64 < k ∨ bud < 0 ∨ 1000000 < bud then 1 else 0) = 0 from he]
      exact ⟨fun hx => absurd rfl hx, fun _ => k7⟩
    refine ⟨_, rfl, ?_⟩
    repeat' (first | exact leaf | refine ⟨_, c0, ?_⟩ | apply And.intro)

end Go.Proofs.YtljbcihbgeiacaaGreat

/- VcLawT4 -/
namespace Go.Proofs.YtljbcihbgeiacaaGreat

theorem rok_all {L : List Rw} {d : Int} (h : Rok L d) : ∀ p ∈ L.map Rw.pr, 1 ≤ p.1 ∧ p.1 ≤ 1000000000 ∧ (p.2.length : Int) = d ∧ vok p.2 := by
  intro p hp
  obtain ⟨r, hr, rfl⟩ := List.mem_map.1 hp
  exact ⟨(h.id r hr).1, (h.id r hr).2, h.v r hr⟩

theorem tputP_all (P : List Pr) (id : Int) (v : List Int) : (tputP P id v).Perm ((id, v) :: P.filter fun p => p.1 != id) := by
  unfold tputP
  refine List.perm_middle.trans (List.Perm.cons _ ?_)
  have e1 : P.filter (fun p => decide (p.1 < id)) = (P.filter fun p => p.1 != id).filter fun p => decide (p.1 < id) := by
    rw [List.filter_filter]
    refine List.filter_congr fun p _ => ?_
    by_cases h : p.1 < id
    · have : p.1 ≠ id := by omega
      simp [h, this]
    · simp [h]
  have e2 : P.filter (fun p => decide (id < p.1)) = (P.filter fun p => p.1 != id).filter fun p => !decide (p.1 < id) := by
    rw [List.filter_filter]
    refine List.filter_congr fun p _ => ?_
    by_cases h : id < p.1
    · have h1 : p.1 ≠ id := by omega
      have h2 : ¬ p.1 < id := by omega
      simp [h, h1, h2]
    · by_cases h2 : p.1 < id
      · simp [h, h2]
      · have : p.1 = id := by omega
        simp [this]
  rw [e1, e2]
  exact List.filter_append_perm _ _

theorem mayErr_ok {id : Int} {v : List Int} {d : Int} {there : Bool} {many : Int} (h : mayErr id v d there many = 0) : 1 ≤ id ∧ id ≤ 1000000000 ∧ vcheck v d = 0 ∧ (there = false → many < 512) := by
  unfold mayErr at h
  split at h
  · omega
  · split at h
    · rename_i h1 h2; exact absurd h h2
    · split at h
      · omega
      · rename_i h1 h2 h3
        refine ⟨by omega, by omega, by omega, fun ht => ?_⟩
        by_cases hm : many < 512
        · exact hm
        · exact absurd ⟨ht, by omega⟩ h3

theorem filter_ne_lt {P : List Pr} {id : Int} (h : id ∈ P.map (·.1)) : (P.filter fun p => p.1 != id).length < P.length := by
  obtain ⟨p, hp1, hp2⟩ := List.mem_map.1 h
  exact List.length_filter_lt_length_iff_exists.2 ⟨p, hp1, by simp [hp2]⟩

theorem rok_put {L L' : List Rw} {d id : Int} {q : List Int} (h : Rok L d) (hp : L'.map Rw.pr = tputP (L.map Rw.pr) id q) (hnd : (L'.map (·.id)).Nodup) (he : mayErr id q d (decide (id ∈ L.map (·.id))) L.length = 0) : Rok L' d := by
  obtain ⟨h1, h2, h3, h4⟩ := mayErr_ok he
  obtain ⟨_, _, h5, h6⟩ := vcheck_ok h3
  have hperm := tputP_all (L.map Rw.pr) id q
  rw [← hp] at hperm
  have hlen : L'.length ≤ 512 := by
    have e := hperm.length_eq
    simp only [List.length_map, List.length_cons] at e
    by_cases hm : id ∈ L.map (·.id)
    · rw [ids_pr] at hm
      have := filter_ne_lt hm
      have hl := h.len
      rw [List.length_map] at this
      omega
    · have := h4 (by simp only [decide_eq_false_iff_not]; exact hm)
      have h7 := List.length_filter_le (fun p : Pr => p.1 != id) (L.map Rw.pr)
      rw [List.length_map] at h7
      omega
  refine rok_pr h.dim hlen hnd fun p hp => ?_
  rcases List.mem_cons.1 (hperm.mem_iff.1 hp) with rfl | hp
  · exact ⟨h1, h2, h5, h6⟩
  · exact rok_all h p (List.mem_filter.1 hp).1

theorem rok_del {L L' : List Rw} {d id : Int} (h : Rok L d) (hp : L'.map Rw.pr = tdelP (L.map Rw.pr) id) (hnd : (L'.map (·.id)).Nodup) : Rok L' d := by
  have hlen : L'.length ≤ 512 := by
    have e := congrArg List.length hp
    have h7 := List.length_filter_le (fun p : Pr => p.1 != id) (L.map Rw.pr)
    have hl := h.len
    unfold tdelP at e
    rw [List.length_map] at e h7
    omega
  refine rok_pr h.dim hlen hnd fun p hp' => ?_
  rw [hp] at hp'
  exact rok_all h p (List.mem_filter.1 hp').1

theorem TSt.known {ub u : H} {D : Nat → Prop} {b : Nat} {X : Tr} {n : Nat} {L : List Rw} (h : TSt ub u D b X n L) : ∀ c, D c → u c ≠ none := h.ix.base.2.2

theorem spec.theodolitelaw09_step {ub u : H} {D : Nat → Prop} {b : Nat} {X : Tr} {n : Nat} {L : List Rw} {o : Cll} {K : Bool → H → Prop} (h : TSt ub u D b X n L) (hTab : TabU ub) (hv : Ints ub o.rv o.v) (hq : Ints ub o.qs o.q) (hvb : o.v.length ≤ 1000000) (hqb : o.q.length ≤ 1000000)
    (hK : ∀ u' D' X' L', TSt ub u' D' b X' n L' → X'.dim = X.dim → X'.links = X.links → K true u') : C.theodolitelaw09_step (some ⟨b, 0, none⟩) (some ⟨n, 0, none⟩) o.kind o.id o.k o.bud o.rid o.rv o.qs u K := by
  have fin : ∀ {bb : Bool} {u'} {D' X' L'}, bb = true → TSt ub u' D' b X' n L' → X'.dim = X.dim → X'.links = X.links → K bb u' := fun hb h1 h2 h3 => by rw [hb]; exact hK _ _ _ _ h1 h2 h3
  have hL : L.length ≤ 1000000 := by have := h.ok.len; omega
  apply vc.theodolitelaw09_step
  refine ⟨fun _ => ?_, fun _ => ⟨fun _ => ?_, fun _ => ⟨fun _ => spec.theodolitelaw09_searches h hq hqb fun u' hu' => hK _ _ _ _ (h.mono hu') rfl rfl, fun _ => spec.theodolitelaw09_looks h fun u' hu' => hK _ _ _ _ (h.mono hu') rfl rfl⟩⟩⟩
  · refine spec.theodolitekeep_Lend (hv.mono h.le) hvb fun g hg => ?_
    have l1 : u.le (u.ins g (lentObj o.v)) := H.le_ins _ hg
    have h1 := h.mono l1
    have hgD : ¬ D g := fun hd => h.known g hd hg
    have hub : ub g = none := by
      cases hx : ub g with
      | none => rfl
      | some x => have := h.le _ _ hx; rw [hg] at this; cases this
    have edec : decide (o.rid ∈ (ixRows X).map (·.1)) = decide (o.rid ∈ L.map (·.id)) := decide_eq_decide.2 (h.ids o.rid)
    have edec' : decide (o.rid ∉ (ixRows X).map (·.1)) = decide (o.rid ∉ L.map (·.id)) := decide_eq_decide.2 (not_congr (h.ids o.rid))
    have eerr : mayErr o.rid o.v X.dim (decide (o.rid ∈ (ixRows X).map (·.1))) (ixRows X).length = mayErr o.rid o.v X.dim (decide (o.rid ∈ L.map (·.id))) L.length := by rw [edec, h.len]
    refine spec.ix_Put h1.ix hTab (lent_ints (H.ins_same _ _ _) hvb) (fun g' hg' hd => by
      have : g' = g := by simp [Sl.blk] at hg'; exact hg'.symm
      exact hgD (this ▸ hd)) (fun hne => ?_) (fun he u2 D2 X2 hX2 ht hp hdim hlinks => ?_)
    · rw [eerr] at hne ⊢
      refine spec.theodolitekeep_Back (H.ins_same _ _ _) (hv.mono h1.le) hvb fun x => ?_
      have l3 : u.le ((u.ins g (lentObj o.v)).ins g x) := fun c y hc => by
        rw [H.ins_other _ _ (fun e => by rw [e, hg] at hc; cases hc)]
        exact l1 c y hc
      have h3 := h.mono l3
      refine spec.tabPut h3.tab h3.known hL hv (fun _ u' hst hk => ?_) (fun he => absurd he hne)
      exact ⟨fun _ => ⟨fun _ => fin (decide_eq_true rfl) ⟨h3.ix.same hk hst.le, hst, h.perm, h.ok⟩ rfl rfl, fun hx => absurd rfl hx⟩, fun e => (by cases e)⟩
    · have hgk : u2 g = some (lentObj o.v) := ht.keep _ _ (H.ins_same _ _ _) hgD
      have hgD2 : ¬ D2 g := fun hd => by
        rcases ht.grow g hd with h5 | h5
        · exact hgD h5
        · rw [H.ins_same] at h5; cases h5
      refine spec.theodolitekeep_Back hgk (hv.mono hX2.base.1) hvb fun x => ?_
      have t2 : TabSt ub u2 D2 n X.dim L := h1.tab.turn ht
      have t3 : TabSt ub (u2.ins g x) D2 n X.dim L := by
        obtain ⟨uT, e1, e2, e3, e4, e5⟩ := h.tab.ex
        have k1 := (h1.tab.turn ht)
        obtain ⟨k2, k3⟩ := ht.apart (e1.trans l1) e2
        refine ⟨uT, fun c y hc => ?_, k3, e3, e4, e5⟩
        rw [H.ins_other _ _ (fun e => by have := e1 _ _ hc; rw [e, hg] at this; cases this)]
        exact k2 c y hc
      have i3 : Ix ub (u2.ins g x) D2 b X2 := hX2.same (fun c y hc hd => by rw [H.ins_other _ _ (fun e => hgD2 (by rw [← e]; exact hd))]; exact hc) t3.le
      refine spec.tabPut t3 i3.base.2.2 hL hv (fun hne => absurd (eerr ▸ he) hne) fun he' u' L' hst hk hpL => ?_
      have hrok := rok_put h.ok hpL hst.nodup he'
      have hperm : (ixRows X2).Perm (L'.map Rw.pr) := by
        rw [hpL]
        exact hp.trans ((List.Perm.cons _ (h.perm.filter _)).trans (tputP_all _ _ _).symm)
      rw [edec']
      exact ⟨fun _ => ⟨fun _ => fin (decide_eq_true rfl) ⟨i3.same hk hst.le, hdim ▸ hst, hperm, hdim ▸ hrok⟩ hdim hlinks, fun hx => absurd rfl hx⟩, fun e => (by cases e)⟩
  · refine spec.ix_Delete h.ix (fun hno u2 l2 => ?_) (fun hyes u2 D2 X2 hX2 ht hp hdim hlinks => ?_)
    · have h2 := h.mono l2
      refine spec.tabDelete h2.tab h2.known hL (fun _ u' hst hk => ?_) (fun hy => ?_)
      · exact ⟨fun _ => fin (decide_eq_true rfl) ⟨h2.ix.same hk hst.le, hst, h.perm, h.ok⟩ rfl rfl, fun hx => absurd rfl hx⟩
      · obtain ⟨r, hr, he⟩ := hy
        exact absurd ((h.ids o.id).2 (List.mem_map.2 ⟨r, hr, he⟩)) hno
    · refine spec.tabDelete (h.tab.turn ht) hX2.base.2.2 hL (fun hno => ?_) (fun _ u' L' hst hk hpL => ?_)
      · obtain ⟨r, hr, he⟩ := List.mem_map.1 ((h.ids o.id).1 hyes)
        exact absurd he (hno r hr)
      · have hperm : (ixRows X2).Perm (L'.map Rw.pr) := by
          rw [hpL, hp]
          exact h.perm.filter _
        exact ⟨fun _ => fin (decide_eq_true rfl) ⟨hX2.same hk hst.le, hdim ▸ hst, hperm, hdim ▸ rok_del h.ok hpL hst.nodup⟩ hdim hlinks, fun hx => absurd rfl hx⟩

end Go.Proofs.YtljbcihbgeiacaaGreat

/- VcLawT5 -/
namespace Go.Proofs.YtljbcihbgeiacaaGreat

theorem rok_perm {L l : List Rw} {d : Int} (h : Rok l d) (hp : (L.map Rw.pr).Perm (l.map Rw.pr)) : Rok L d := by
  have hlen := hp.length_eq
  rw [List.length_map, List.length_map] at hlen
  refine rok_pr h.dim (by have := h.len; omega) ?_ fun p hp' => rok_all h p (hp.mem_iff.1 hp')
  rw [ids_pr, (hp.map (·.1)).nodup_iff, ← ids_pr]
  exact h.nodup

end Go.Proofs.YtljbcihbgeiacaaGreat

/- VcRef06 -/
namespace Go.Proofs.YtljbcihbgeiacaaGreat

theorem build_vecs1 (s : Sl) : buildOf Tryz.prog 68 1 #[(0, .slice s.a s.n s.c)] = some (41, [.slice s.a s.n s.c]) := by kernel_rfl
theorem build_int1 (x : Int) : buildOf Tryz.prog 41 1 #[(0, .int .i64 x)] = some (3, [.int .i64 x]) := by kernel_rfl

theorem ints_known {u : H} {s : Sl} {l : List Int} (h : Ints u s l) (hl : 0 < l.length) {g : Nat} (hg : s.blk = some g) : u g ≠ none := by
  have hn := h.len
  obtain ⟨p, hp, hc⟩ := h.at (x := 0) (by omega) (by omega)
  have e : p.block = g := by simpa [Sl.blk, hp] using hg
  intro h0
  unfold H.cell? at hc
  have e2 : (p.add ((0 : Int).toNat * 1)).block = g := e
  rw [e2, h0] at hc
  cases hc

theorem spec.theodoliteref06_Nearest {u : H} {s t : Sl} {l : List (Sl × List Int)} {v : List Int} {d : Int} {K : Int → Int → Int → H → Prop} (h : VcsAt u s l) (hc : CsOk l d) (ht : Ints u t v) (hv : vok v) (hvd : (v.length : Int) = d)
    (hK : ∀ x y, U64 x → U64 y → wv x y = (nearTo (l.map (·.2)) v l.length).2 → K (nearI (l.map (·.2)) v : Int) x y u) : C.theodoliteref06_Nearest s t u K := by
  have hn := h.len
  have hm := hc.many
  have hd := hc.dim
  apply vc.theodoliteref06_Nearest
  obtain ⟨p, hp, c, hcx, hcm, c0, hci⟩ := h.at (x := 0) (by omega) (by omega)
  obtain ⟨e1, e2⟩ := hc.each c hcm
  have hlen : c.2.length = v.length := by omega
  have eg0 : (l.map (·.2)).getD 0 [] = c.2 := by
    have : l[0]? = some c := hcx
    rw [List.getD_eq_getElem?_getD, List.getElem?_map, this]; rfl
  refine ⟨p, hp, ⟨by omega, by omega⟩, _, c0, spec.theodoliteref03_Far hci ht e2 hv hlen fun x0 y0 hx0 hy0 hw0 => ?_⟩
  have one : nearTo (l.map (·.2)) v 1 = (0, sqTo c.2 v v.length) := by
    show (if _ then _ else _) = _
    rw [if_pos (.inl rfl), eg0]
  refine ⟨fun a i x y w => w = u ∧ 1 ≤ i ∧ i ≤ s.n ∧ a = (nearTo (l.map (·.2)) v i.toNat).1 ∧ U64 x ∧ U64 y ∧ wv x y = (nearTo (l.map (·.2)) v i.toNat).2, fun _ i _ _ _ => ((s.n : Int) - i).toNat, ⟨rfl, by omega, by omega, by show _ = ((nearTo _ _ 1).1 : Int); rw [one]; rfl, hx0, hy0, by show _ = (nearTo _ _ 1).2; rw [one, hw0, hlen]⟩, ?_⟩
  rintro a i x y w ⟨rfl, i0, i1, ea, hx, hy, hw⟩
  refine ⟨fun hi => ?_, fun hi => ?_⟩
  · obtain ⟨p, hp, c, hcx, hcm, c0, hci⟩ := h.at (x := i) (by omega) hi
    obtain ⟨e1, e2⟩ := hc.each c hcm
    have eg : (l.map (·.2)).getD i.toNat [] = c.2 := by rw [List.getD_eq_getElem?_getD, List.getElem?_map, hcx]; rfl
    have hlen : c.2.length = v.length := by omega
    refine ⟨p, hp, ⟨by omega, hi⟩, _, c0, spec.theodoliteref03_Far hci ht e2 hv hlen fun x' y' hx' hy' hw' => ?_⟩
    rw [hlen] at hw'
    have step : nearTo (l.map (·.2)) v (i + 1).toNat = if i.toNat = 0 ∨ sqTo c.2 v v.length < (nearTo (l.map (·.2)) v i.toNat).2 then (i.toNat, sqTo c.2 v v.length) else nearTo (l.map (·.2)) v i.toNat := by
      rw [show (i + 1).toNat = i.toNat + 1 by omega]
      show (if _ then _ else _) = _
      rw [eg]
    refine spec.theodoliteref01_Less hx' hy' hx hy ?_
    rw [hw, hw']
    refine ⟨fun hb => ?_, fun hb => ?_⟩
    · have hlt := of_decide_eq_true hb
      refine ⟨⟨by omega, by omega⟩, ⟨rfl, by omega, by omega, ?_, hx', hy', ?_⟩, by dsimp only; omega⟩
      · rw [step, if_pos (.inr hlt)]
        show i = ((i.toNat : Nat) : Int)
        omega
      · rw [step, if_pos (.inr hlt)]; exact hw'
    · have hlt := of_decide_eq_false hb
      refine ⟨⟨by omega, by omega⟩, ⟨rfl, by omega, by omega, ?_, hx, hy, ?_⟩, by dsimp only; omega⟩
      · rw [step, if_neg (fun h => h.elim (fun e => by omega) hlt)]; exact ea
      · rw [step, if_neg (fun h => h.elim (fun e => by omega) hlt)]; exact hw
  · have e : i.toNat = l.length := by omega
    rw [e] at ea hw
    have en : nearI (l.map (·.2)) v = (nearTo (l.map (·.2)) v l.length).1 := by unfold nearI; rw [List.length_map]
    rw [ea, ← en]
    exact hK x y hx hy hw

theorem spec.theodoliteref06_down {a b : Int} {u : H} {K : Int → H → Prop} (hb : 0 < b) (h1 : -10000000000000 ≤ a) (h2 : a ≤ 10000000000000) (hK : K (a / b) u) : C.theodoliteref06_down a b u K := by
  obtain ⟨d1, d2⟩ := down_eq (a := a) hb
  have hm := Int.mul_tdiv_add_tmod a b
  have h5 : (Int.tmod a b).natAbs < b.natAbs := by rw [Int.natAbs_tmod]; exact Nat.mod_lt _ (by omega)
  have h6 : (Int.tmod a b).natAbs ≤ a.natAbs := by rw [Int.natAbs_tmod]; exact Nat.mod_le _ _
  have hq1 : -10000000000000 ≤ a / b := Int.le_ediv_of_mul_le hb (by
    have : -10000000000000 * b ≤ -10000000000000 * 1 := Int.mul_le_mul_of_nonpos_left (by omega) (by omega)
    omega)
  have hq2 : a / b ≤ 10000000000000 := Int.ediv_le_of_le_mul hb (by
    have : 10000000000000 * 1 ≤ 10000000000000 * b := Int.mul_le_mul_of_nonneg_left (by omega) (by omega)
    omega)
  rw [Int.mul_comm] at hm
  apply vc.theodoliteref06_down
  refine ⟨by omega, ?_, ⟨by omega, by omega⟩, fun hn => ?_, fun hn => ?_⟩
  · by_cases hn : Int.tmod a b < 0
    · have := d1 hn; exact ⟨by omega, by omega⟩
    · have := d2 hn; exact ⟨by omega, by omega⟩
  · rw [d1 (by omega)]
    exact ⟨⟨by omega, by omega⟩, hK⟩
  · rw [d2 (by omega)]
    exact hK

theorem spec.theodoliteref06_vectors {u : H} {s : Sl} {l : List (Sl × List Int)} {d : Int} {K : Int → H → Prop} (h : VcsAt u s l) (hd : 1 ≤ d ∧ d ≤ 64) (hc : ∀ c ∈ l, (c.2.length : Int) = d ∧ vok c.2) (hl : l.length ≤ 1000000) (hK : K 0 u) : C.theodoliteref06_vectors s d u K := by
  have hn := h.len
  apply vc.theodoliteref06_vectors
  refine ⟨fun _ x v => v = u ∧ 0 ≤ x, fun _ x _ => ((s.n : Int) - x).toNat, ⟨rfl, by omega⟩, ?_⟩
  rintro _ x v ⟨rfl, x0⟩
  refine ⟨fun hx => ?_, fun _ => hK⟩
  obtain ⟨p, hp, c, _, hcm, c0, hi⟩ := h.at x0 hx
  obtain ⟨e1, e2⟩ := hc c hcm
  exact ⟨p, hp, ⟨x0, hx⟩, _, c0, spec.theodoliteref03_Check hi ⟨fun hne => absurd (vcheck_reg e2 e1 hd) hne, fun _ => ⟨⟨by omega, by omega⟩, ⟨rfl, by omega⟩, by dsimp only; omega⟩⟩⟩

theorem spec.theodoliteref06_TrainErr {u : H} {s : Sl} {L : List (Sl × List Int)} {d : Nat} {k rounds : Int} {K : Int → H → Prop} (h : VcsAt u s L) (hok : ∀ c ∈ L, c.2.length = d ∧ vok c.2) (hd : 1 ≤ d ∧ d ≤ 64) (hfew : L.length ≤ 512) (hk : 1 ≤ k ∧ k ≤ 64) (hkl : k ≤ L.length) (hr : 0 ≤ rounds ∧ rounds ≤ 20)
    (hK : K 0 u) : C.theodoliteref06_TrainErr s k rounds u K := by
  have hn := h.len
  apply vc.theodoliteref06_TrainErr
  intro K0 h0
  refine ⟨fun hx => by omega, fun _ => ⟨fun hx => by omega, fun _ => ⟨fun hx => by omega, fun _ => ?_⟩⟩⟩
  have hdec : decide ((20 : Int) < rounds) = false := decide_eq_false (by omega)
  rw [hdec]
  refine h0 _ _ ⟨fun e => (by cases e), fun _ => ⟨fun hx => by omega, fun _ => ⟨fun hx => by omega, fun _ => ?_⟩⟩⟩
  obtain ⟨p, hp, c, _, hcm, c0, hi⟩ := h.at (x := 0) (by omega) (by omega)
  have hci := hi.len
  have hcl := (hok c hcm).1
  refine ⟨p, hp, ⟨by omega, by omega⟩, _, c0, ?_⟩
  rw [show ((c.1.n : Nat) : Int) = (d : Int) by omega]
  exact spec.theodoliteref06_vectors h (by omega) (fun c hc => ⟨by have := (hok c hc).1; omega, (hok c hc).2⟩) (by omega) hK

theorem spec.theodoliteref06_Same {u : H} {s t : Sl} {a b : List (Sl × List Int)} {K : Bool → H → Prop} (ha : VcsAt u s a) (hb : VcsAt u t b) (hl : a.length ≤ 1000000) (he : a.map (·.2) = b.map (·.2)) (hK : K true u) : C.theodoliteref06_Same s t u K := by
  have hn := ha.len
  have hm := hb.len
  have hab : a.length = b.length := by simpa using congrArg List.length he
  apply vc.theodoliteref06_Same
  refine ⟨fun hne => absurd (by omega) hne, fun _ => ⟨fun _ x v => v = u ∧ 0 ≤ x, fun _ x _ => ((s.n : Int) - x).toNat, ⟨rfl, by omega⟩, ?_⟩⟩
  rintro _ x v ⟨rfl, x0⟩
  refine ⟨fun hx => ?_, fun _ => hK⟩
  obtain ⟨p, hp, c, hcx, hcm, c0, hi⟩ := ha.at x0 hx
  obtain ⟨p', hp', c', hcx', hcm', c0', hi'⟩ := hb.at (x := x) x0 (by omega)
  have ee : c.2 = c'.2 := by
    have h1 := congrArg (·[x.toNat]?) he
    simp only [List.getElem?_map, hcx, hcx', Option.map_some] at h1
    exact Option.some.inj h1
  refine ⟨p, hp, ⟨x0, hx⟩, p', hp', ⟨x0, by omega⟩, _, c0, _, c0', spec.theodoliteref03_Ints hi hi' ?_⟩
  rw [decide_eq_true ee]
  exact ⟨fun h => absurd rfl h, fun _ => ⟨⟨by omega, by omega⟩, ⟨rfl, by omega⟩, by dsimp only; omega⟩⟩

def src6 (st : Int) : Obj := .cells #[.int .u64 st] 167 (0, 0)

theorem spec.ref04_Perm {src : Nat} {st n : Int} {ub u : H} {K : Sl → Int → H → Prop} (h : u src = some (src6 st)) (hub : ub.le u) (hsb : ub src = none) (h0 : 0 ≤ n) (hn : n ≤ 65536)
    (hK : ∀ s' u', OwnF ub u' 3 1 s' ((permF st n.toNat).flatMap encI) → K s' 0 u') : C.theodoliteref04_Source__Perm (some ⟨src, 0, none⟩) n u K := by
  apply vc.theodoliteref04_Source__Perm
  intro K0 hK0
  refine ⟨fun hx => by omega, fun _ => ⟨fun hx => by omega, fun _ => hK0 ⟨none, 0, 0⟩ _ _ ?_⟩⟩
  clear hK0 K0
  refine ⟨fun s x w => 0 ≤ x ∧ x ≤ n ∧ u.le w ∧ OwnF u w 3 1 s ((numsL x.toNat).flatMap encI), fun _ x _ => (n - x).toNat, ⟨by omega, h0, H.le.refl u, OwnF.nil (H.le.refl u) _ _⟩, ?_⟩
  rintro s x w ⟨x0, x1, uw, ho⟩
  have hnl : (numsL x.toNat).length = x.toNat := by simp [numsL]
  have hsn : s.n = x.toNat := by have := ho.ints.len; rw [hnl] at this; exact this
  refine ⟨fun hx => ?_, fun hx => ?_⟩
  · refine sem_push' tInts (build_int1 x) (by decide) rfl (by simp [Value.oneCell']) ho (by show s.n < _; omega) (by show (s.n + 1) * _ ≤ _; omega) fun s' u' ho' _ _ _ _ => ⟨⟨by omega, by omega⟩, ⟨by omega, by omega, ho'.le, ?_⟩, by dsimp only; omega⟩
    have : (numsL (x + 1).toNat).flatMap encI = (numsL x.toNat).flatMap encI ++ [.int .i64 x] := by
      rw [show (x + 1).toNat = x.toNat + 1 by omega]
      unfold numsL
      rw [List.range_succ, List.map_append, List.map_singleton, Int.toNat_of_nonneg x0, List.flatMap_append]
      rfl
    rw [this]
    exact ho'
  have hxn : x = n := by omega
  subst hxn
  have hss : s.blk ≠ some src := fun e => by have := ho.fresh src e; rw [h] at this; cases this
  refine ⟨⟨by omega, by omega⟩, ?_⟩
  refine ⟨fun i v => i ≤ x - 1 ∧ ∃ st' l, v src = some (src6 st') ∧ l.length = x.toNat ∧ OwnF ub v 3 1 s (l.flatMap encI) ∧ permA i.toNat st' l = permF st x.toNat, fun i _ => i.toNat, ⟨by omega, st, numsL x.toNat, uw _ _ h, hnl, ho.weaken hub, by
    unfold permF
    rw [show (x - 1).toNat = x.toNat - 1 by omega]⟩, ?_⟩
  rintro i v ⟨i1, st', l, hsv, hll, hol, hp⟩
  refine ⟨fun hi => ?_, fun hi => ?_⟩
  · refine ⟨⟨by omega, by omega⟩, spec.ref04_Below hsv (by omega) (by omega) ?_⟩
    have h3 := Int.emod_nonneg (outS (nxS st')) (show i + 1 ≠ 0 by omega)
    have h4 := Int.emod_lt_of_pos (outS (nxS st')) (show 0 < i + 1 by omega)
    obtain ⟨kk, hkk⟩ : ∃ kk, kk = outS (nxS st') % (i + 1) := ⟨_, rfl⟩
    rw [← hkk] at h3 h4 ⊢
    have hov : OwnF ub (v.ins src (src6 (nxS st'))) 3 1 s (l.flatMap encI) := ⟨hol.own.le fun c o hc hu => by rw [H.ins_other _ _ (fun e => hss (by rw [hc, e]))]; exact hu, fun c o hc => by
      rw [H.ins_other _ _ (fun e => by rw [e, hsb] at hc; cases hc)]; exact hol.le c o hc, hol.fresh⟩
    have vs : (v.ins src (src6 (nxS st'))) src = some (src6 (nxS st')) := H.ins_same _ _ _
    have hsn' := hov.ints.len
    obtain ⟨p, hpp, ci⟩ := hov.ints.at (x := i) (by omega) (by omega)
    obtain ⟨p', hpp', ck⟩ := hov.ints.at (x := kk) (by omega) (by omega)
    have epp : p' = p := by rw [hpp] at hpp'; exact (Option.some.inj hpp').symm
    subst epp
    refine ⟨p', hpp, ⟨by omega, by omega⟩, _, ci, p', hpp, ⟨h3, by omega⟩, _, ck, p', hpp, ⟨by omega, by omega⟩, ?_⟩
    refine OwnF.store (enc := encI) encI_len hov (by decide) (i := i.toNat) (by omega) (y := l.getD kk.toNat 0) (by simp [encI, Value.oneCell']) hpp fun u10 ho10 he10 _ => ⟨p', hpp, ⟨h3, by omega⟩, ?_⟩
    refine OwnF.store (enc := encI) encI_len ho10 (by decide) (i := kk.toNat) (by rw [List.length_set]; omega) (y := l.getD i.toNat 0) (by simp [encI, Value.oneCell']) hpp fun u12 ho12 he12 _ => ⟨⟨by omega, by omega⟩, ⟨by omega, nxS st', _, he12 _ _ (he10 _ _ vs hss) hss, by rw [List.length_set, List.length_set]; exact hll, ho12, ?_⟩, by dsimp only; omega⟩
    have hml : i.toNat < l.length := by omega
    have hkl : kk.toNat < l.length := by omega
    have esw : (l.set i.toNat (l.getD kk.toNat 0)).set kk.toNat (l.getD i.toNat 0) = swapL l i.toNat kk.toNat := by
      rw [swapL_eq hml hkl, List.getD_eq_getElem?_getD, List.getD_eq_getElem?_getD, List.getElem?_eq_getElem hml, List.getElem?_eq_getElem hkl]
      rfl
    rw [esw, ← hp]
    obtain ⟨m, hm⟩ : ∃ m, i.toNat = m + 1 := ⟨i.toNat - 1, by omega⟩
    rw [show (i - 1).toNat = m by omega, hm]
    conv => rhs; unfold permA
    rw [hkk, show i + 1 = (m : Int) + 2 by omega]
  · refine hK s v ?_
    have : i.toNat = 0 := by omega
    rw [this] at hp
    have hp' : l = permF st x.toNat := hp
    rw [hp'] at hol
    exact hol

end Go.Proofs.YtljbcihbgeiacaaGreat

/- VcRef06b -/
namespace Go.Proofs.YtljbcihbgeiacaaGreat

theorem Ints.elsef {u u' : H} {s t : Sl} {l : List Int} (h : Ints u t l) (he : Else u u' s) (hf : Far s t) : Ints u' t l := Seg.else h fun g o hg ho => he g o ho fun e => hf g e hg

theorem spec.theodoliteref06_round {u : H} {s t : Sl} {Cn L : List (Sl × List Int)} {d : Nat} {K : Sl → H → Prop} (hC : VcsAt u s Cn) (hCok : CsOk Cn d) (hL : VcsAt u t L) (hLok : ∀ c ∈ L, c.2.length = d ∧ vok c.2) (hfew : L.length ≤ 512)
    (hK : ∀ s' u' C', u.le u' → VcsAt u' s' C' → C'.map (·.2) = roundI d (L.map (·.2)) (Cn.map (·.2)) → K s' u') : C.theodoliteref06_round s t u K := by
  have hsn := hC.len
  have htn := hL.len
  have hm := hCok.many
  have hd := hCok.dim
  obtain ⟨cs, hcs⟩ : ∃ cs, cs = Cn.map (·.2) := ⟨_, rfl⟩
  obtain ⟨vs, hvs⟩ : ∃ vs, vs = L.map (·.2) := ⟨_, rfl⟩
  have hcsl : cs.length = Cn.length := by rw [hcs, List.length_map]
  have hvsl : vs.length = L.length := by rw [hvs, List.length_map]
  have hvok : ∀ v ∈ vs, vok v := fun v hv => by rw [hvs] at hv; obtain ⟨c, hc, rfl⟩ := List.mem_map.1 hv; exact (hLok c hc).2
  rw [← hcs, ← hvs] at hK
  apply vc.theodoliteref06_round
  -- whose each is
  refine ⟨fun z x w => 0 ≤ x ∧ x ≤ t.n ∧ u.le w ∧ OwnF u w 3 1 z ((((vs.take x.toNat).map fun v => (nearI cs v : Int))).flatMap encI), fun _ x _ => ((t.n : Int) - x).toNat, ⟨by omega, by omega, H.le.refl u, OwnF.nil (H.le.refl u) _ _⟩, ?_⟩
  rintro z x w ⟨x0, x1, uw, ho⟩
  have hzl : ((vs.take x.toNat).map fun v => (nearI cs v : Int)).length = x.toNat := by rw [List.length_map, List.length_take]; omega
  have hzn : z.n = x.toNat := by have := ho.ints.len; rw [hzl] at this; exact this
  refine ⟨fun hx => ?_, fun hx => ?_⟩
  · obtain ⟨p, hp, v, hv, hvm, cv, hvi⟩ := (hL.mono uw).at x0 hx
    obtain ⟨vd, vo⟩ := hLok v hvm
    have hvx : vs[x.toNat]? = some v.2 := by rw [hvs, List.getElem?_map, hv]; rfl
    refine ⟨p, hp, ⟨x0, hx⟩, v.1, cv, spec.theodoliteref06_Nearest (hC.mono uw) hCok hvi vo (by omega) fun _ _ _ _ _ => ?_⟩
    rw [← hcs]
    refine sem_push' tInts (build_int1 _) (by decide) rfl (by simp [Value.oneCell']) ho (by show z.n < _; omega) (by show (z.n + 1) * _ ≤ _; omega) fun s' u' ho' _ _ _ _ => ⟨⟨by omega, by omega⟩, ⟨by omega, by omega, ho'.le, ?_⟩, by dsimp only; omega⟩
    have : ((vs.take (x + 1).toNat).map fun v => (nearI cs v : Int)).flatMap encI = ((vs.take x.toNat).map fun v => (nearI cs v : Int)).flatMap encI ++ [.int .i64 (nearI cs v.2 : Int)] := by
      rw [show (x + 1).toNat = x.toNat + 1 by omega, List.take_add_one, hvx, List.map_append, List.flatMap_append]
      rfl
    rw [this]
    exact ho'
  have hall : vs.take x.toNat = vs := List.take_of_length_le (by omega)
  rw [hall] at ho hzl
  have hz : Ints w z (vs.map fun v => (nearI cs v : Int)) := ho.ints
  have hzt : z.n = t.n := by omega
  clear ho hzn hall hzl
  -- the new centres
  refine ⟨fun y x v => 0 ≤ x ∧ x ≤ s.n ∧ w.le v ∧ ∃ Cs : List (Sl × List Int), OwnF w v 41 1 y (Cs.flatMap fun c => encS c.1) ∧ (∀ c ∈ Cs, Ints v c.1 c.2 ∧ Far y c.1 ∧ 0 < c.2.length) ∧ Cs.map (·.2) = (roundI d vs cs).take x.toNat, fun _ x _ => ((s.n : Int) - x).toNat, ⟨by omega, by omega, H.le.refl w, [], OwnF.nil (H.le.refl w) _ _, fun c hc => (by cases hc), rfl⟩, ?_⟩
  rintro y x v ⟨x0, x1, wv', Cs, hY, hI, hCs⟩
  have hCsl : Cs.length = x.toNat := by
    have := congrArg List.length hCs
    rw [List.length_map, List.length_take, roundI_len] at this
    omega
  have hyn : y.n = x.toNat := by have := flat_n encS_len (by decide) hY.own.seg; rw [hCsl] at this; exact this
  refine ⟨fun hx => ?_, fun hx => by
    refine hK y v Cs (uw.trans wv') ⟨hY.own.seg, fun c hc => (hI c hc).1⟩ ?_
    rw [hCs, List.take_of_length_le (by rw [roundI_len]; omega)]⟩
  obtain ⟨p, hp, c, hcx, hcm, cc, hci⟩ := (hC.mono (uw.trans wv')).at x0 hx
  obtain ⟨cl, cv⟩ := hCok.each c hcm
  have hcn := hci.len
  have hcx' : cs[x.toNat]? = some c.2 := by rw [hcs, List.getElem?_map, hcx]; rfl
  have hxl : x.toNat < cs.length := by omega
  -- the push, whatever is pushed
  have push : ∀ {v2 : H} {q : Sl} {b : List Int}, v.le v2 → Ints v2 q b → Far y q → 0 < b.length → (roundI d vs cs)[x.toNat]? = some b →
      SemT Tryz.prog (Instr.buildSlice 68 1 #[(0, .slice q.a q.n q.c)]) [.one .slice] v2 fun s1 u1 => SemT Tryz.prog (Builtin.append_ #[68, 68] 68 #[.slice y.a y.n y.c, .slice s1.a s1.n s1.c]) [.one .slice] u1 fun s57 u58 => InR (x + 1) ∧ (0 ≤ x + 1 ∧ x + 1 ≤ (s.n : Int) ∧ w.le u58 ∧ ∃ Cs : List (Sl × List Int), OwnF w u58 41 1 s57 (Cs.flatMap fun c => encS c.1) ∧ (∀ c ∈ Cs, Ints u58 c.1 c.2 ∧ Far s57 c.1 ∧ 0 < c.2.length) ∧ Cs.map (·.2) = (roundI d vs cs).take (x + 1).toNat) ∧ ((s.n : Int) - (x + 1)).toNat < ((s.n : Int) - x).toNat := by
    intro v2 q b hv2 hq hf hb hr
    refine sem_push' tVecs (build_vecs1 q) (by decide) rfl (by simp [Value.oneCell']) (hY.mono hv2) (by show y.n < _; omega) (by show (y.n + 1) * _ ≤ _; omega) fun s' u' ho' hn' he' hbl _ => ⟨⟨by omega, by omega⟩, ⟨by omega, by omega, ho'.le, Cs ++ [(q, b)], ?_, fun c hc => ?_, ?_⟩, by omega⟩
    · rw [List.flatMap_append]; exact ho'
    · have far : ∀ {k : Sl} {m : List Int}, Ints v2 k m → 0 < m.length → Far y k → Far s' k := fun hk hm hfk g hg hkg => by
        rcases hbl g hg with h1 | h1
        · exact hfk g h1 hkg
        · exact ints_known hk hm hkg h1
      rcases List.mem_append.1 hc with hc | hc
      · obtain ⟨i1, i2, i3⟩ := hI c hc
        exact ⟨(i1.mono hv2).elsef he' i2, far (i1.mono hv2) i3 i2, i3⟩
      · obtain rfl := List.mem_singleton.1 hc
        exact ⟨hq.elsef he' hf, far hq hb hf, hb⟩
    · rw [List.map_append, hCs, show (x + 1).toNat = x.toNat + 1 by omega, List.take_add_one, hr]
      rfl
  refine ⟨p, hp, ⟨x0, hx⟩, c.1, cc, sem_make_ints (by omega) (by omega) fun sm v2 hS hsmn => ?_⟩
  have hd' : ((c.1.n : Int)).toNat = d := by omega
  rw [hd'] at hS
  have fYS : Far y sm := OwnF.far hY (H.le.refl v) hS
  -- the sum of its vectors
  refine ⟨fun m i w2 => 0 ≤ i ∧ i ≤ t.n ∧ m = ((mineI cs (vs.take i.toNat) x.toNat).length : Nat) ∧ ∃ S : List Int, OwnF v w2 3 1 sm (S.flatMap encI) ∧ S.length = d ∧ ∀ j, j < d → S.getD j 0 = sumC (mineI cs (vs.take i.toNat) x.toNat) j, fun _ i _ => ((t.n : Int) - i).toNat, ⟨by omega, by omega, rfl, _, hS, by simp, fun j hj => by
    rw [List.getD_eq_getElem?_getD, List.getElem?_replicate, if_pos hj]; rfl⟩, ?_⟩
  rintro m i w2 ⟨i0, i1, hmm, S, hS, hSl, hSv⟩
  have hvw : v.le w2 := hS.le
  have huw2 : u.le w2 := (uw.trans wv').trans hvw
  have hml := mineI_le cs (vs.take i.toNat) x.toNat
  rw [List.length_take] at hml
  refine ⟨fun hi => ?_, fun hi => ?_⟩
  · have hil : i.toNat < vs.length := by omega
    obtain ⟨pz, hpz, cz⟩ := (hz.mono (wv'.trans hvw)).at (x := i) i0 (by omega)
    obtain ⟨pv, hpv, vv, hvv, hvm, cvv, hvi⟩ := (hL.mono huw2).at (x := i) i0 hi
    obtain ⟨vd, vo⟩ := hLok vv hvm
    have hvn := hvi.len
    have hvx : vs[i.toNat]? = some vv.2 := by rw [hvs, List.getElem?_map, hvv]; rfl
    have eg : (vs.map fun v => (nearI cs v : Int)).getD i.toNat 0 = nearI cs vv.2 := by rw [List.getD_eq_getElem?_getD, List.getElem?_map, hvx]; rfl
    rw [eg] at cz
    refine ⟨pz, hpz, ⟨i0, by omega⟩, _, cz, fun hne => ?_, fun he => ?_⟩
    · have hno : mineI cs (vs.take (i + 1).toNat) x.toNat = mineI cs (vs.take i.toNat) x.toNat := by
        rw [show (i + 1).toNat = i.toNat + 1 by omega, mineI_succ hvx, if_neg (by omega), List.append_nil]
      exact ⟨⟨by omega, by omega⟩, ⟨by omega, by omega, by rw [hno]; exact hmm, S, hS, hSl, by rw [hno]; exact hSv⟩, by dsimp only; omega⟩
    · have hyes : mineI cs (vs.take (i + 1).toNat) x.toNat = mineI cs (vs.take i.toNat) x.toNat ++ [vv.2] := by
        rw [show (i + 1).toNat = i.toNat + 1 by omega, mineI_succ hvx, if_pos (by omega)]
      have hb1 : ∀ j, _ := fun j => sumC_bound (m := mineI cs (vs.take i.toNat) x.toNat) (fun z hz => hvok z (List.mem_of_mem_take (mineI_mem hz))) j
      refine ⟨⟨by omega, by omega⟩, fun j w3 => 0 ≤ j ∧ j ≤ d ∧ ∃ S : List Int, OwnF v w3 3 1 sm (S.flatMap encI) ∧ S.length = d ∧ ∀ a, a < d → S.getD a 0 = sumC (mineI cs (vs.take i.toNat) x.toNat) a + (if (a : Int) < j then vv.2.getD a 0 else 0), fun j _ => ((d : Int) - j).toNat, ⟨by omega, by omega, S, hS, hSl, fun a ha => by rw [if_neg (by omega), hSv a ha]; omega⟩, ?_⟩
      rintro j w3 ⟨j0, j1, S3, hS3, hS3l, hS3v⟩
      have hsn3 : sm.n = d := by have := hS3.ints.len; omega
      refine ⟨fun hj => ?_, fun hj => ?_⟩
      · obtain ⟨p1, hp1, h37⟩ := hS3.ints.at (x := j) j0 (by omega)
        have huw3 : u.le w3 := (uw.trans wv').trans hS3.le
        obtain ⟨p2, hp2, v2', hv2', hv2m, c2, hv2i⟩ := (hL.mono huw3).at (x := i) i0 hi
        obtain rfl : v2' = vv := by rw [hvv] at hv2'; exact (Option.some.inj hv2').symm
        obtain ⟨p3, hp3, h40⟩ := hv2i.at (x := j) j0 (by omega)
        have hjl : j.toNat < d := by omega
        have hv3 := hS3v j.toNat hjl
        rw [if_neg (by omega)] at hv3
        have hb2 := coord_bound vo j.toNat
        have hb3 := hb1 j.toNat
        refine ⟨p1, hp1, ⟨j0, hj⟩, p2, hp2, ⟨i0, hi⟩, _, h37, _, c2, p3, hp3, ⟨j0, by omega⟩, _, h40, ⟨by omega, by omega⟩, p1, hp1, ⟨j0, hj⟩, ?_⟩
        refine OwnF.store (enc := encI) encI_len hS3 (by decide) (i := j.toNat) (by omega) (y := S3.getD j.toNat 0 + v2'.2.getD j.toNat 0) (by simp [encI, Value.oneCell']) hp1 fun u42 hS42 _ _ => ⟨⟨by omega, by omega⟩, ⟨by omega, by omega, _, hS42, by rw [List.length_set]; exact hS3l, fun a ha => ?_⟩, by dsimp only; omega⟩
        rw [getD_set _ _ _ _ (by omega)]
        by_cases e : a = j.toNat
        · subst e
          rw [if_pos rfl, if_pos (by omega), hv3]
          omega
        · rw [if_neg e, hS3v a ha]
          by_cases e2 : (a : Int) < j
          · rw [if_pos e2, if_pos (by omega)]
          · rw [if_neg e2, if_neg (by omega)]
      · refine ⟨⟨by omega, by omega⟩, ⟨by omega, by omega, ?_, S3, hS3, hS3l, fun a ha => ?_⟩, by dsimp only; omega⟩
        · rw [hyes, List.length_append, hmm]; simp
        · rw [hyes, sumC_append, sumC_one, hS3v a ha, if_pos (by omega)]
  have hall : vs.take i.toNat = vs := List.take_of_length_le (by omega)
  rw [hall] at hmm hSv hml
  obtain ⟨p', hp', c', hcx2, _, cc', hci'⟩ := (hC.mono huw2).at x0 hx
  obtain rfl : c' = c := by rw [hcx] at hcx2; exact (Option.some.inj hcx2).symm
  have hg := roundI_get (d := d) (vs := vs) hxl
  refine ⟨p', hp', ⟨x0, hx⟩, c'.1, cc', fun hpos => ?_, fun hnp => ?_⟩
  · have hne : mineI cs vs x.toNat ≠ [] := fun h0 => by rw [h0] at hmm; simp at hmm; omega
    rw [if_neg hne] at hg
    refine ⟨fun j w3 => 0 ≤ j ∧ j ≤ d ∧ ∃ S : List Int, OwnF v w3 3 1 sm (S.flatMap encI) ∧ S.length = d ∧ ∀ a, a < d → S.getD a 0 = if (a : Int) < j then sumC (mineI cs vs x.toNat) a / m else sumC (mineI cs vs x.toNat) a, fun j _ => ((d : Int) - j).toNat, ⟨by omega, by omega, S, hS, hSl, fun a ha => by rw [if_neg (by omega), hSv a ha]⟩, ?_⟩
    rintro j w3 ⟨j0, j1, S3, hS3, hS3l, hS3v⟩
    have hsn3 : sm.n = d := by have := hS3.ints.len; omega
    refine ⟨fun hj => ?_, fun hj => ?_⟩
    · obtain ⟨p1, hp1, h50⟩ := hS3.ints.at (x := j) j0 (by omega)
      have hjl : j.toNat < d := by omega
      have hv3 := hS3v j.toNat hjl
      rw [if_neg (by omega)] at hv3
      rw [hv3] at h50
      have hb1 := sumC_bound (m := mineI cs vs x.toNat) (fun z hz => hvok z (mineI_mem hz)) j.toNat
      refine ⟨p1, hp1, ⟨j0, hj⟩, _, h50, spec.theodoliteref06_down hpos (by omega) (by omega) ⟨p1, hp1, ⟨j0, hj⟩, ?_⟩⟩
      refine OwnF.store (enc := encI) encI_len hS3 (by decide) (i := j.toNat) (by omega) (y := sumC (mineI cs vs x.toNat) j.toNat / m) (by simp [encI, Value.oneCell']) hp1 fun u42 hS42 _ _ => ⟨⟨by omega, by omega⟩, ⟨by omega, by omega, _, hS42, by rw [List.length_set]; exact hS3l, fun a ha => ?_⟩, by dsimp only; omega⟩
      rw [getD_set _ _ _ _ (by omega)]
      by_cases e : a = j.toNat
      · subst e
        rw [if_pos rfl, if_pos (by omega)]
      · rw [if_neg e, hS3v a ha]
        by_cases e2 : (a : Int) < j
        · rw [if_pos e2, if_pos (by omega)]
        · rw [if_neg e2, if_neg (by omega)]
    · have hSm : S3 = meanI (mineI cs vs x.toNat) d := by
        refine ext_getD (by rw [hS3l]; simp [meanI]) fun a ha => ?_
        rw [hS3v a (by omega), if_pos (by omega)]
        unfold meanI
        rw [List.getD_eq_getElem?_getD, List.getElem?_map, List.getElem?_range (by omega), hmm]
        rfl
      rw [hSm] at hS3 hS3l
      exact push hS3.le hS3.ints fYS (by omega) hg
  · have hnil : mineI cs vs x.toNat = [] := List.eq_nil_of_length_eq_zero (by omega)
    rw [if_pos hnil, List.getD_eq_getElem?_getD, hcx'] at hg
    refine push hvw hci' (fun g hgy hgc => ?_) (by omega) hg
    have h1 := hY.fresh g hgy
    exact ints_known ((hC.mono uw).ints c' hcm) (by omega) hgc h1

theorem iterI_ok' {d : Nat} {vs : List (List Int)} (hv : ∀ v ∈ vs, vok v) (hd : d ≤ 64) : ∀ (n : Nat) (cs : List (List Int)), (∀ c ∈ cs, c.length = d ∧ vok c) → (∀ c ∈ iterI d vs n cs, c.length = d ∧ vok c) ∧ (iterI d vs n cs).length = cs.length := by
  intro n
  induction n with
  | zero => intro cs h; exact ⟨h, rfl⟩
  | succ n ih =>
    intro cs h
    obtain ⟨h1, h2⟩ := ih cs h
    exact ⟨roundI_ok hv hd h1, by show (roundI _ _ _).length = _; rw [roundI_len, h2]⟩

theorem spec.theodoliteref06_Train {u : H} {s : Sl} {L : List (Sl × List Int)} {d : Nat} {k rounds seed : Int} {K : Sl → Int → H → Prop} (h : VcsAt u s L) (hok : ∀ c ∈ L, c.2.length = d ∧ vok c.2) (hd : 1 ≤ d ∧ d ≤ 64) (hfew : L.length ≤ 512) (hk : 1 ≤ k ∧ k ≤ 64) (hkl : k ≤ L.length) (hr : 0 ≤ rounds ∧ rounds ≤ 20)
    (hK : ∀ s' u' cs, u.le u' → VcsAt u' s' cs → cs.map (·.2) = trainI seed k.toNat rounds.toNat d (L.map (·.2)) → K s' 0 u') : C.theodoliteref06_Train s k rounds seed u K := by
  have hn := h.len
  obtain ⟨vs, hvs⟩ : ∃ vs, vs = L.map (·.2) := ⟨_, rfl⟩
  have hvl : vs.length = L.length := by rw [hvs, List.length_map]
  rw [← hvs] at hK
  apply vc.theodoliteref06_Train
  refine spec.theodoliteref06_TrainErr h hok hd hfew hk hkl hr ⟨fun hx => absurd rfl hx, fun _ => ?_⟩
  intro n2 hn2
  have l2 := H.le_ins (u := u) (b := n2) (src6 seed) hn2
  refine spec.ref04_Perm (st := seed) (ub := u) (H.ins_same _ _ _) l2 hn2 (by omega) (by omega) fun s3 u5 hP => ?_
  have hPi := hP.ints
  rw [show ((s.n : Nat) : Int).toNat = vs.length by omega] at hPi
  have hPn := hPi.len
  rw [permF_len] at hPn
  have l5 := hP.le
  have h5 := h.mono l5
  clear hP
  have hvok : ∀ v ∈ vs, v.length = d ∧ vok v := fun v hv => by rw [hvs] at hv; obtain ⟨c, hc, rfl⟩ := List.mem_map.1 hv; exact hok c hc
  have hok0 : ∀ c ∈ startI seed k.toNat vs, c.length = d ∧ vok c := fun c hc => by
    unfold startI at hc
    obtain ⟨i, hi, rfl⟩ := List.mem_map.1 hc
    obtain ⟨i0, i1⟩ := permF_mem (List.mem_of_mem_take hi)
    have : vs.getD i.toNat [] ∈ vs := by
      rw [List.getD_eq_getElem?_getD, List.getElem?_eq_getElem (by omega)]
      exact List.getElem_mem _
    exact hvok _ this
  refine ⟨fun y x w => 0 ≤ x ∧ x ≤ k ∧ u5.le w ∧ ∃ Cs : List (Sl × List Int), OwnF u5 w 41 1 y (Cs.flatMap fun c => encS c.1) ∧ (∀ c ∈ Cs, Ints u5 c.1 c.2) ∧ Cs.map (·.2) = (startI seed k.toNat vs).take x.toNat, fun _ x _ => (k - x).toNat, ⟨by omega, by omega, H.le.refl _, [], OwnF.nil (H.le.refl _) _ _, fun c hc => (by cases hc), rfl⟩, ?_⟩
  rintro y x w ⟨x0, x1, lw, Cs, hY, hI, hCs⟩
  have hCsl : Cs.length = x.toNat := by
    have := congrArg List.length hCs
    rw [List.length_map, List.length_take, startI_len (by omega)] at this
    omega
  have hyn : y.n = x.toNat := by have := flat_n encS_len (by decide) hY.own.seg; rw [hCsl] at this; exact this
  refine ⟨fun hx => ?_, fun hx => ?_⟩
  · obtain ⟨pp, hpp, hcx⟩ := (hPi.mono lw).at (x := x) x0 (by omega)
    have hxl : x.toNat < (permF seed vs.length).length := by rw [permF_len]; omega
    obtain ⟨z, hz⟩ : ∃ z, (permF seed vs.length)[x.toNat]? = some z := ⟨_, List.getElem?_eq_getElem hxl⟩
    obtain ⟨z0, z1⟩ := permF_mem (List.mem_of_getElem? hz)
    have eg : (permF seed vs.length).getD x.toNat 0 = z := by rw [List.getD_eq_getElem?_getD, hz]; rfl
    rw [eg] at hcx
    obtain ⟨q, hq, c, hc, hcm, cz, hci⟩ := (h5.mono lw).at (x := z) z0 (by omega)
    have evs : vs.getD z.toNat [] = c.2 := by rw [hvs, List.getD_eq_getElem?_getD, List.getElem?_map, hc]; rfl
    have hst := startI_get (k := k.toNat) (show x.toNat < k.toNat by omega) hz
    rw [evs] at hst
    refine ⟨pp, hpp, ⟨x0, by omega⟩, z, hcx, q, hq, ⟨z0, by omega⟩, c.1, cz, ?_⟩
    refine sem_push' tVecs (build_vecs1 c.1) (by decide) rfl (by simp [Value.oneCell']) hY (by show y.n < _; omega) (by show (y.n + 1) * _ ≤ _; omega) fun s' u' ho' _ _ _ _ => ⟨⟨by omega, by omega⟩, ⟨by omega, by omega, ho'.le, Cs ++ [(c.1, c.2)], ?_, fun c' hc' => ?_, ?_⟩, by dsimp only; omega⟩
    · rw [List.flatMap_append]; exact ho'
    · rcases List.mem_append.1 hc' with hc' | hc'
      · exact hI c' hc'
      · obtain rfl := List.mem_singleton.1 hc'
        exact h5.ints c hcm
    · rw [List.map_append, hCs, show (x + 1).toNat = x.toNat + 1 by omega, List.take_add_one, hst]
      rfl
  · rw [List.take_of_length_le (by rw [startI_len (by omega)]; omega)] at hCs
    refine ⟨fun z x w => 0 ≤ x ∧ x ≤ rounds ∧ u5.le w ∧ ∃ Cs, VcsAt w z Cs ∧ Cs.map (·.2) = iterI d vs x.toNat (startI seed k.toNat vs), fun _ x _ => (rounds - x).toNat, ⟨by omega, by omega, lw, Cs, ⟨hY.own.seg, fun c hc => (hI c hc).mono lw⟩, hCs⟩, ?_⟩
    rintro z x w ⟨x0, x1, lw, Cs, hV, hCs⟩
    obtain ⟨k1, k2⟩ := iterI_ok' (fun v hv => (hvok v hv).2) hd.2 x.toNat _ hok0
    rw [startI_len (by omega)] at k2
    have hCl : Cs.length = k.toNat := by have := congrArg List.length hCs; rw [List.length_map, k2] at this; exact this
    refine ⟨fun hx => ?_, fun hx => hK z w Cs (l5.trans lw) hV ?_⟩
    · refine spec.theodoliteref06_round (d := d) hV ⟨by omega, by omega, fun c hc => ?_⟩ (h5.mono lw) hok hfew fun s' u' C' l' hC' he => ⟨⟨by omega, by omega⟩, ⟨by omega, by omega, lw.trans l', C', hC', ?_⟩, by dsimp only; omega⟩
      · have := k1 c.2 (by rw [← hCs]; exact List.mem_map_of_mem hc)
        exact ⟨by omega, this.2⟩
      · rw [he, hCs, ← hvs, show (x + 1).toNat = x.toNat + 1 by omega]
        rfl
    · rw [hCs, show x.toNat = rounds.toNat by omega]
      rfl

end Go.Proofs.YtljbcihbgeiacaaGreat
