/- Texts of mine, joined by merge.py: VcVp7, VcVp8, VcLawF, VcOwn2, VcTable, VcTable2, VcIxVp, VcLawT1, VcOpen2, VcLawT2, VcLawT3, VcLawT4, VcLawT5. -/
import Derived.Test.YtncgdoeobblnkaaGreatMra8
import Derived.Test.YtncgdoeobblnkaaGreatRows
import Derived.Deep.Strs
set_option maxRecDepth 100000

/- VcVp7 -/
namespace Go.Proofs.YtncgdoeobblnkaaGreat.Vp

theorem blks_perm (h : PH) : h.blks.Perm (h.sr.blk.toList ++ (h.b :: (h.sl.blk.toList ++ h.sg.blk.toList ++ h.sk.blk.toList))) := by
  unfold PH.blks
  refine List.Perm.trans (List.Perm.cons _ ?_) List.perm_middle.symm
  generalize h.sl.blk.toList ++ h.sg.blk.toList = a
  generalize h.sr.blk.toList = r
  generalize h.sk.blk.toList = k
  rw [List.append_assoc]
  exact List.perm_append_comm_assoc a r k

theorem blks_sr {h : PH} (hn : h.blks.Nodup) {s : Sl} (rows : List Rw) (hs : ∀ g, s.blk = some g → h.sr.blk = some g ∨ g ∉ h.blks) : ({ h with sr := s, rows := rows } : PH).blks.Nodup := by
  have h1 := (blks_perm h).nodup_iff.1 hn
  rw [(blks_perm _).nodup_iff]
  rw [List.nodup_append] at h1 ⊢
  obtain ⟨_, h3, h4⟩ := h1
  refine ⟨?_, h3, fun c hc c' hc' e => ?_⟩
  · show s.blk.toList.Nodup
    cases s.blk <;> simp
  · subst e
    have hc : s.blk = some c := by simpa using hc
    rcases hs c hc with h5 | h5
    · exact h4 c (by rw [h5]; simp) c hc' rfl
    · exact h5 ((blks_perm h).mem_iff.2 (List.mem_append_right _ hc'))

theorem leaf_ok {d : Int} {h : PH} (hp : PtOk d (PN.mk h []).pt) {id : Int} {sv s : Sl} {v : List Int} (hin : Inside ((PN.mk h []).pt.rgn []) v) : PtOk d (PN.mk { h with sr := s, rows := h.rows ++ [⟨id, sv, v⟩] } []).pt ∧ (PN.mk { h with sr := s, rows := h.rows ++ [⟨id, sv, v⟩] } []).pt.all.Perm ((id, v) :: (PN.mk h []).pt.all) := by
  have e1 : (PN.mk { h with sr := s, rows := h.rows ++ [⟨id, sv, v⟩] } []).pt.all = (PN.mk h []).pt.all ++ [(id, v)] := by
    rw [PN.pt_all, PN.pt_all, PN.heads, PN.heads, PN.headsL]
    simp [Rw.pr]
  have h1 := hp.reg
  have h2 := hp.ins
  refine ⟨.mk h1 (fun x hx => ?_) fun k hk => (by rw [PN.pt_eq] at hk; cases hk), by rw [e1]; exact List.perm_append_singleton _ _⟩
  rw [e1] at hx
  rcases List.mem_append.1 hx with hx | hx
  · exact h2 x hx
  · rw [List.mem_singleton.1 hx]
    exact hin

theorem st_part {u : H} {h1 h2 : PH} {p : Nat} (hc : u p = some (.cells (partC h1).toArray 96 (0, 0))) {f : H → Prop} (hf : f (u.ins p (.cells (partC h2).toArray 96 (0, 0)))) :
    H.St u (Addr.mk p 0 none) [.int .i64 h2.sh, .slice h2.sl.a h2.sl.n h2.sl.c, .slice h2.sg.a h2.sg.n h2.sg.c, .int .u64 (hiW h2.rad), .int .u64 (loW h2.rad), .slice none 0 0, .slice h2.sr.a h2.sr.n h2.sr.c, .slice h2.sk.a h2.sk.n h2.sk.c] f :=
  ⟨_, _, hc, rfl, by simp [partC], by simp [Value.oneCell'], by
    have e : wr (partC h1).toArray 0 [.int .i64 h2.sh, .slice h2.sl.a h2.sl.n h2.sl.c, .slice h2.sg.a h2.sg.n h2.sg.c, .int .u64 (hiW h2.rad), .int .u64 (loW h2.rad), .slice none 0 0, .slice h2.sr.a h2.sr.n h2.sr.c, .slice h2.sk.a h2.sk.n h2.sk.c] = (partC h2).toArray := by simp [wr, partC]
    show f (u.ins p (.cells (wr (partC h1).toArray 0 _) _ (0, 0)))
    rw [e]
    exact hf⟩

theorem spec.leaf {ub u : H} {d leaf : Int} {v : List Int} {W : Nat → Prop} {n0 : PN} {fs : List Hol} {h : PH} {b src : Nat} {id : Int} {sv : Sl} {Fin : H → Prop} (w : Way 3 ub u d v (fun c => c ≠ src) W n0 fs (.mk h [])) (hlf : 1 ≤ leaf) (tl : ub.cell? ((Addr.mk b 0 none).add 1) = some (.int .i64 leaf)) (ts : ub.cell? ((Addr.mk b 0 none).add 2) = some (.pointer (some ⟨src, 0, none⟩))) (hsrc : ∃ st, u src = some (.cells #[.int .u64 st] 164 (0, 0))) (hbin : PtBin (plug fs (.mk h [])).pt)
    (hsv : Ints ub sv v) (hrok : Rok (h.rows ++ [⟨id, sv, v⟩]) d) (hin : Inside ((PN.mk h []).pt.rgn []) v) (hfin : ∀ u' r, Down 3 ub u' d (id, v) (fun c => c ≠ src) (fun y => ∀ g, y.s.blk = some g → W g ∨ sv.blk = some g) n0 r 1100 → PtBin r.pt → (∃ st, u' src = some (.cells #[.int .u64 st] 164 (0, 0))) → Fin u') :
    (SemT Tryz.prog (Instr.buildSlice 22 1 #[(0, (Value.agg #[(Value.int IntKind.i64 id), (Value.slice sv.a sv.n sv.c)]))]) [(Sh.one CT.slice)] u (fun (s61 : Sl) (u62 : H) => (H.le u u62) ∧ (SemT Tryz.prog (Builtin.append_ #[22, 22] 22 #[(Value.slice h.sr.a h.sr.n h.sr.c), (Value.slice s61.a s61.n s61.c)]) [(Sh.one CT.slice)] u62 (fun (s63 : Sl) (u64 : H) => ∃ r65 : Addr, ((some (Addr.mk h.b 0 none)) = (some r65)) ∧ (H.St u64 (Addr.add r65 6) [(Value.slice s63.a s63.n s63.c)] (fun (u66 : H) => ∃ r67 : Addr, ((some (Addr.mk h.b 0 none)) = (some r67)) ∧ (∃ r68 : Addr, ((some (Addr.mk b 0 none)) = (some r68)) ∧ (∃ s69 : Sl, ((H.cell? u66 (Addr.add r67 6)) = (some (Value.slice s69.a s69.n s69.c))) ∧ (∃ x70 : Int, ((H.cell? u66 (Addr.add r68 1)) = (some (Value.int IntKind.i64 x70))) ∧ (((x70 < (s69.n : Int)) → ∃ r71 : Addr, ((some (Addr.mk h.b 0 none)) = (some r71)) ∧ (∃ s72 : Sl, ((H.cell? u66 (Addr.add r71 6)) = (some (Value.slice s72.a s72.n s72.c))) ∧ (C.vptree_Tree__cut (some (Addr.mk b 0 none)) s72 u66 (fun (p73 : (Option Addr)) (u74 : H) => ∃ r75 : Addr, (p73 = (some r75)) ∧ (∃ x76 : Int, ((H.cell? u74 r75) = (some (Value.int IntKind.i64 x76))) ∧ (∃ s77 : Sl, ((H.cell? u74 (Addr.add r75 1)) = (some (Value.slice s77.a s77.n s77.c))) ∧ (∃ s78 : Sl, ((H.cell? u74 (Addr.add r75 2)) = (some (Value.slice s78.a s78.n s78.c))) ∧ (∃ x79 : Int, ((H.cell? u74 (Addr.add r75 3)) = (some (Value.int IntKind.u64 x79))) ∧ (∃ x80 : Int, ((H.cell? u74 (Addr.add r75 4)) = (some (Value.int IntKind.u64 x80))) ∧ (∃ s81 : Sl, ((H.cell? u74 (Addr.add r75 5)) = (some (Value.slice s81.a s81.n s81.c))) ∧ (∃ s82 : Sl, ((H.cell? u74 (Addr.add r75 6)) = (some (Value.slice s82.a s82.n s82.c))) ∧ (∃ s83 : Sl, ((H.cell? u74 (Addr.add r75 7)) = (some (Value.slice s83.a s83.n s83.c))) ∧ (∃ r84 : Addr, ((some (Addr.mk h.b 0 none)) = (some r84)) ∧ (H.St u74 r84 [(Value.int IntKind.i64 x76), (Value.slice s77.a s77.n s77.c), (Value.slice s78.a s78.n s78.c), (Value.int IntKind.u64 x79), (Value.int IntKind.u64 x80), (Value.slice s81.a s81.n s81.c), (Value.slice s82.a s82.n s82.c), (Value.slice s83.a s83.n s83.c)] (fun (u85 : H) => Fin u85))))))))))))))) ∧ ((¬ (x70 < (s69.n : Int))) → Fin u66))))))))))) := by
  obtain ⟨hph, hnd, hout, hvec, hsh⟩ := w.head
  obtain ⟨st0, hst0⟩ := hsrc
  have ubs : ub src = none := by
    cases e : ub src with
    | none => rfl
    | some o => exact absurd rfl (w.known src (by rw [e]; simp))
  have srcO : src ∉ h.blks := fun hm => (hout src hm).2.2 rfl
  have hcell : u h.b = some (.cells (partC h).toArray 96 (0, 0)) := hph.cell
  have hO : OwnF ub u 43 2 h.sr (h.rows.flatMap encR) := ⟨hph.rws, w.base, fun g hg => (hout g (by simp [PH.blks, hg])).1⟩
  have hsn : h.sr.n = h.rows.length := flat_n encR_len (by decide) hO.own.seg
  have hrl := hrok.len
  rw [List.length_append] at hrl
  simp only [List.length_cons, List.length_nil] at hrl
  -- the blocks of the part
  have hq : h.sr.blk ≠ some h.b := fun e => by
    have h1 := (blks_perm h).nodup_iff.1 hnd
    rw [List.nodup_append] at h1
    exact h1.2.2 h.b (by rw [e]; simp) h.b (List.mem_cons_self ..) rfl
  have hqo : ∀ g, (h.sl.blk = some g ∨ h.sg.blk = some g ∨ h.sk.blk = some g) → g ∈ h.blks ∧ g ≠ h.b ∧ h.sr.blk ≠ some g := fun g hg => by
    have h1 := (blks_perm h).nodup_iff.1 hnd
    rw [List.nodup_append] at h1
    have h2 : g ∈ h.sl.blk.toList ++ h.sg.blk.toList ++ h.sk.blk.toList := by
      rw [List.mem_append, List.mem_append]
      rcases hg with e | e | e
      · exact .inl (.inl (by rw [e]; simp))
      · exact .inl (.inr (by rw [e]; simp))
      · exact .inr (by rw [e]; simp)
    exact ⟨(blks_perm h).mem_iff.2 (List.mem_append_right _ (List.mem_cons_of_mem _ h2)), fun e => (List.nodup_cons.1 h1.2.1).1 (by rw [← e]; exact h2), fun e => h1.2.2 g (by rw [e]; simp) g (List.mem_cons_of_mem _ h2) rfl⟩
  refine sem_push tRows (build_row1 id sv) (by decide) rfl (by simp [Value.oneCell']) hO (by omega) (by rw [hsn]; show (h.rows.length + 1) * _ ≤ _; omega) fun s' u64 ho' hn' he' hbl _ => ?_
  have ho' : OwnF ub u64 43 2 s' ((h.rows ++ [(⟨id, sv, v⟩ : Rw)]).flatMap encR) := by rw [List.flatMap_append]; exact ho'
  have hsb : s'.blk ≠ some h.b := fun e => by
    rcases hbl _ e with e | e
    · exact hq e
    · rw [hcell] at e; cases e
  have hc64 : u64 h.b = some (.cells (partC h).toArray 96 (0, 0)) := he' _ _ hcell hq
  refine ⟨_, rfl, st_rows hc64 s' (h.rows ++ [⟨id, sv, v⟩]) ?_⟩
  obtain ⟨g1, hg1⟩ : ∃ g1 : PH, g1 = { h with sr := s', rows := h.rows ++ [⟨id, sv, v⟩] } := ⟨_, rfl⟩
  have g1b : g1.b = h.b := by rw [hg1]
  rw [← hg1]
  obtain ⟨u66, hu66⟩ : ∃ u66, u66 = u64.ins h.b (.cells (partC g1).toArray 96 (0, 0)) := ⟨_, rfl⟩
  rw [← hu66]
  have c66 : u66 h.b = some (.cells (partC g1).toArray 96 (0, 0)) := by rw [hu66]; exact H.ins_same _ _ _
  have f66 : ∀ c o, u64 c = some o → c ≠ h.b → u66 c = some o := fun c o hc hne => by rw [hu66, H.ins_other _ _ hne]; exact hc
  have e66 : ∀ c o, u c = some o → c ≠ h.b → h.sr.blk ≠ some c → u66 c = some o := fun c o hc h2 h3 => f66 c o (he' c o hc h3) h2
  have mB : h.b ∈ h.blks := List.mem_cons_self ..
  have mR : ∀ {g}, h.sr.blk = some g → g ∈ h.blks := fun {g} e => by simp [PH.blks, e]
  have el66 : ∀ c o, u c = some o → c ∉ h.blks → u66 c = some o := fun c o hc hm => e66 c o hc (fun e => hm (by rw [e]; exact mB)) fun e => hm (mR e)
  have hub66 : ub.le u66 := fun c o hc => el66 c o (w.base c o hc) fun hm => by rw [(hout c hm).1] at hc; cases hc
  have own66 : OwnF ub u66 43 2 s' ((h.rows ++ [(⟨id, sv, v⟩ : Rw)]).flatMap encR) := ⟨ho'.own.le fun c o hc ho => f66 c o ho fun e => hsb (by rw [← e]; exact hc), hub66, ho'.fresh⟩
  have cB : u66.cell? ((Addr.mk h.b 0 none).add 6) = some (.slice s'.a s'.n s'.c) := by
    have : g1.sr = s' := by rw [hg1]
    have h9 : u66.cell? ((Addr.mk h.b 0 none).add 6) = some (.slice g1.sr.a g1.sr.n g1.sr.c) := H.cell?_of c66 6
    rw [this] at h9
    exact h9
  have nown : (PN.mk h []).own = h.blks := by unfold PN.own; rw [PN.heads, PN.headsL]; simp
  have hvN : ∀ r ∈ h.rows ++ [(⟨id, sv, v⟩ : Rw)], Ints ub r.s r.v ∧ ∀ g, r.s.blk = some g → W g ∨ sv.blk = some g := fun r hr => by
    rcases List.mem_append.1 hr with hr | hr
    · exact ⟨(hvec r hr).1, fun g hg => .inl ((hvec r hr).2 g hg)⟩
    · rw [List.mem_singleton.1 hr]
      exact ⟨hsv, fun g hg => .inr hg⟩
  refine ⟨_, rfl, _, rfl, s', cB, leaf, H.le.cell hub66 tl, fun _ => ?_, fun _ => ?_⟩
  · -- too many: cut
    have s66 : u66 src = some (.cells #[.int .u64 st0] 164 (0, 0)) := el66 _ _ hst0 srcO
    have sns : s'.blk ≠ some src := fun e => by
      rcases hbl _ e with e | e
      · exact srcO (mR e)
      · rw [hst0] at e; cases e
    obtain ⟨ux, hux⟩ : ∃ ux : H, ux = fun c => if c = src then none else H.sans u66 s' c := ⟨_, rfl⟩
    have ux1 : ∀ {c}, c ≠ src → ux c = H.sans u66 s' c := fun {c} hc => by rw [hux]; exact if_neg hc
    have ux0 : ux src = none := by rw [hux]; exact if_pos rfl
    have uxle : ux.le u66 := fun c o hc => by
      by_cases e : c = src
      · rw [e, ux0] at hc; cases hc
      · rw [ux1 e] at hc; exact sans_le _ _ c o hc
    have lux : ub.le ux := fun c o hc => by
      rw [ux1 (fun e => by rw [e, ubs] at hc; cases hc), sans_at (fun e => by rw [ho'.fresh c e] at hc; cases hc)]
      exact hub66 c o hc
    refine ⟨_, rfl, s', cB, spec.cut (ub := ux) (src := src) hlf (H.le.cell lux tl) (H.le.cell lux ts) ux0 ⟨_, s66⟩ sns ⟨own66.own, uxle, fun g hg => by rw [ux1 (fun e => sns (by rw [← e]; exact hg))]; exact if_pos hg⟩ (fun r hr => ((hvN r hr).1).mono lux) hrok (fun e => absurd e (by simp)) fun _ u74 n2 hc => ?_⟩
    obtain ⟨hh, kk⟩ := n2
    have hone := hc.one (hh, kk.map PN.b) (by rw [PN.heads]; exact List.mem_cons_self ..)
    have hcc : u74 hh.b = some (.cells (partC hh).toArray 96 (0, 0)) := hone.cell
    refine ⟨_, rfl, _, H.cell?_of hcc 0, hh.sl, H.cell?_of hcc 1, hh.sg, H.cell?_of hcc 2, _, H.cell?_of hcc 3, _, H.cell?_of hcc 4, ⟨none, 0, 0⟩, H.cell?_of hcc 5, hh.sr, H.cell?_of hcc 6, hh.sk, H.cell?_of hcc 7, _, rfl, ?_⟩
    have c74 : u74 h.b = some (.cells (partC g1).toArray 96 (0, 0)) := hc.else' _ _ c66 hsb (fun e => srcO (by rw [← e]; exact mB))
    refine st_part (h2 := hh) c74 ?_
    obtain ⟨g2, hg2⟩ : ∃ g2 : PH, g2 = { hh with b := h.b } := ⟨_, rfl⟩
    have eg2 : partC hh = partC g2 := by rw [hg2]; rfl
    rw [eg2]
    obtain ⟨u85, hu85⟩ : ∃ u85, u85 = u74.ins h.b (.cells (partC g2).toArray 96 (0, 0)) := ⟨_, rfl⟩
    rw [← hu85]
    have e85 : ∀ c o, u74 c = some o → c ≠ h.b → u85 c = some o := fun c o hc' hne => by rw [hu85, H.ins_other _ _ hne]; exact hc'
    have hnB : h.b ∉ (PN.mk hh kk).own := fun hm => by
      have := (hc.out _ hm).1
      rw [ux1 (fun e => srcO (by rw [← e]; exact mB)), sans_at hsb, c66] at this
      cases this
    have owE : (PN.mk hh kk).own = hh.b :: ((hh.sl.blk.toList ++ hh.sg.blk.toList ++ hh.sr.blk.toList ++ hh.sk.blk.toList) ++ kk.flatMap PN.own) := by rw [PN.own_eq]; rfl
    have owE2 : (PN.mk g2 kk).own = h.b :: ((hh.sl.blk.toList ++ hh.sg.blk.toList ++ hh.sr.blk.toList ++ hh.sk.blk.toList) ++ kk.flatMap PN.own) := by rw [PN.own_eq, hg2]; rfl
    have heE2 : (PN.mk g2 kk).heads = (g2, kk.map PN.b) :: PN.headsL kk := by rw [PN.heads]
    have heE : (PN.mk hh kk).heads = (hh, kk.map PN.b) :: PN.headsL kk := by rw [PN.heads]
    have ptE : (PN.mk g2 kk).pt = (PN.mk hh kk).pt := by rw [PN.pt_eq, PN.pt_eq, hg2]; rfl
    have hnd2 := hc.nodup
    have sub2 : ∀ c ∈ (PN.mk g2 kk).own, c = h.b ∨ c ∈ (PN.mk hh kk).own := fun c hcm => by
      rw [owE2] at hcm
      rcases List.mem_cons.1 hcm with e | e
      · exact .inl e
      · exact .inr (by rw [owE]; exact List.mem_cons_of_mem _ e)
    have el85 : ∀ c o, u c = some o → c ≠ src → c ∉ (PN.mk h []).own → u85 c = some o := fun c o hc' hns hm => by
      rw [nown] at hm
      refine e85 c o (hc.else' c o (el66 c o hc' hm) (fun e => ?_) hns) fun e => hm (by rw [e]; exact mB)
      rcases hbl c e with e | e
      · exact hm (mR e)
      · rw [hc'] at e; cases e
    have hub85 : ub.le u85 := fun c o hc' => el85 c o (w.base c o hc') (fun e => by rw [e, ubs] at hc'; cases hc') fun hm => by rw [nown] at hm; rw [(hout c hm).1] at hc'; cases hc'
    have keepP : ∀ {x : PH × List Nat}, PhAt u74 x → (∀ c ∈ x.1.blks, c ≠ h.b) → (∀ r ∈ x.1.rows, r ∈ h.rows ++ [(⟨id, sv, v⟩ : Rw)]) → PhAt u85 x := fun hx hb hr => hx.keep (fun c o hcm ho => e85 c o ho (hb c hcm)) fun r hrm => ((hvN r (hr r hrm)).1).mono hub85
    refine hfin u85 _ ?dn (plug_bin fs (n' := .mk g2 kk) hbin (by rw [ptE]; exact hc.bin)) (hc.src.elim fun st hst => ⟨st, e85 _ _ hst fun e => srcO (by rw [e]; exact mB)⟩)
    refine (Way.down w (n' := .mk g2 kk) (by rw [show (PN.mk g2 kk).b = g2.b from rfl, hg2]; rfl) (fun x hx => ?_) ?_ (fun c o hc' hns hm => el85 c o hc' hns hm) (fun c hcm => ?_) (fun x hx y hy => ?_) (fun y hy g hg => .inl (hy g hg)) ?_ (by rw [ptE]; exact hc.ok) (by rw [ptE]; exact hc.shp) ?_)
    · rw [heE2] at hx
      rcases List.mem_cons.1 hx with rfl | hx
      · have hz : ∀ g, (hh.sl.blk = some g ∨ hh.sg.blk = some g ∨ hh.sr.blk = some g ∨ hh.sk.blk = some g) → g ≠ h.b := fun g hg e => hnB (by
          rw [owE, ← e]
          refine List.mem_cons_of_mem _ (List.mem_append_left _ ?_)
          rw [List.mem_append, List.mem_append, List.mem_append]
          rcases hg with e | e | e | e
          · exact .inl (.inl (.inl (by rw [e]; simp)))
          · exact .inl (.inl (.inr (by rw [e]; simp)))
          · exact .inl (.inr (by rw [e]; simp))
          · exact .inr (by rw [e]; simp))
        have hrow : ∀ r ∈ hh.rows, r ∈ h.rows ++ [(⟨id, sv, v⟩ : Rw)] := fun r hr => hc.rows (hh, kk.map PN.b) (by rw [heE]; exact List.mem_cons_self ..) r hr
        rw [hg2]
        refine ⟨?_, hone.lo.le fun c o hcb ho => e85 c o ho (hz c (.inl hcb)), hone.hi.le fun c o hcb ho => e85 c o ho (hz c (.inr (.inl hcb))), hone.rws.le fun c o hcb ho => e85 c o ho (hz c (.inr (.inr (.inl hcb)))), fun r hr => ((hvN r (hrow r hr)).1).mono hub85, Seg.else hone.kid fun c o hcb ho => e85 c o ho (hz c (.inr (.inr (.inr hcb))))⟩
        show u85 h.b = _
        rw [hu85, H.ins_same, hg2]
      · have hx' : x ∈ (PN.mk hh kk).heads := by rw [heE]; exact List.mem_cons_of_mem _ hx
        exact keepP (hc.one x hx') (fun c hcm e => hnB (by rw [← e]; exact List.mem_flatMap.2 ⟨x, hx', hcm⟩)) (hc.rows x hx')
    · rw [owE2, List.nodup_cons]
      rw [owE, List.nodup_cons] at hnd2
      exact ⟨fun hm => hnB (by rw [owE]; exact List.mem_cons_of_mem _ hm), hnd2.2⟩
    · rcases sub2 c hcm with rfl | hcm
      · exact ⟨.inl (by rw [nown]; exact mB), by rw [hu85, H.ins_same]; simp⟩
      · obtain ⟨q1, q2, q3⟩ := hc.out c hcm
        rw [ux1 q3] at q1
        refine ⟨?_, ?_⟩
        · by_cases e : s'.blk = some c
          · rcases hbl c e with e | e
            · exact .inl (by rw [nown]; exact mR e)
            · exact .inr ⟨e, q3⟩
          · rw [sans_at e] at q1
            cases hx : u c with
            | none => exact .inr ⟨rfl, q3⟩
            | some o =>
              left
              rw [nown]
              by_cases hm : c ∈ h.blks
              · exact hm
              · rw [el66 c o hx hm] at q1; cases q1
        · obtain ⟨o, ho⟩ := Option.ne_none_iff_exists'.1 q2
          rw [e85 c o ho (fun e => hnB (by rw [← e]; exact hcm))]; simp
    · rw [heE2] at hx
      rcases List.mem_cons.1 hx with rfl | hx
      · exact (hvN y (hc.rows (hh, kk.map PN.b) (by rw [heE]; exact List.mem_cons_self ..) y (by rw [hg2] at hy; exact hy))).2
      · exact (hvN y (hc.rows x (by rw [heE]; exact List.mem_cons_of_mem _ hx) y hy)).2
    · rw [ptE]
      refine hc.all.trans ?_
      rw [List.map_append, PN.pt_all, PN.heads, PN.headsL]
      simp only [List.flatMap_cons, List.flatMap_nil, List.append_nil]
      exact List.perm_append_singleton _ _
    · have := hc.size
      rw [heE] at this
      rw [heE2]
      rw [List.length_append] at this
      simp only [List.length_cons, List.length_nil] at this ⊢
      omega
  · -- it is a leaf still
    have hl := leaf_ok (id := id) (sv := sv) (s := s') (plug_sub fs w.ok) hin
    rw [← hg1] at hl
    have nown1 : (PN.mk g1 []).own = g1.blks := by unfold PN.own; rw [PN.heads, PN.headsL]; simp
    have nh1 : (PN.mk g1 []).heads = [(g1, [])] := by rw [PN.heads, PN.headsL]; rfl
    have mem1 : ∀ c ∈ g1.blks, c = h.b ∨ (h.sl.blk = some c ∨ h.sg.blk = some c ∨ h.sk.blk = some c) ∨ s'.blk = some c := fun c hc => by
      rw [hg1] at hc
      have hc := (blks_perm _).mem_iff.1 hc
      rcases List.mem_append.1 hc with hc | hc
      · exact .inr (.inr (by simpa using hc))
      · rcases List.mem_cons.1 hc with hc | hc
        · exact .inl hc
        · rw [List.mem_append, List.mem_append] at hc
          rcases hc with (hc | hc) | hc
          · exact .inr (.inl (.inl (by simpa using hc)))
          · exact .inr (.inl (.inr (.inl (by simpa using hc))))
          · exact .inr (.inl (.inr (.inr (by simpa using hc))))
    refine hfin u66 _ ?dn2 (plug_bin fs (n' := .mk g1 []) hbin (bin_of (.inl rfl) fun k hk => (by cases hk))) ⟨st0, el66 _ _ hst0 srcO⟩
    refine (Way.down w (n' := .mk g1 []) g1b (fun x hx => ?_) ?_ (fun c o hc _ hm => el66 c o hc (by rw [← nown]; exact hm)) (fun c hc => ?_) (fun x hx y hy => ?_) (fun y hy g hg => .inl (hy g hg)) hl.2 hl.1 ?_ (by rw [nh1]; show 1 ≤ _; have := (PN.mk h []).heads_pos; omega))
    · rw [nh1, List.mem_singleton] at hx
      subst hx
      have k1 : ∀ {s : Sl} {c : Nat} {o : Obj}, (h.sl.blk = some c ∨ h.sg.blk = some c ∨ h.sk.blk = some c) → u c = some o → u66 c = some o := fun {s c o} hc ho => e66 c o ho (hqo c hc).2.1 (hqo c hc).2.2
      refine ⟨by show u66 g1.b = _; rw [g1b]; exact c66, ?_, ?_, ?_, fun r hr => ?_, ?_⟩
      · rw [hg1]; exact hph.lo.le fun c o hc ho => k1 (s := h.sl) (.inl hc) ho
      · rw [hg1]; exact hph.hi.le fun c o hc ho => k1 (s := h.sl) (.inr (.inl hc)) ho
      · rw [hg1]; exact own66.own
      · rw [hg1] at hr; exact ((hvN r hr).1).mono hub66
      · rw [hg1]; exact Seg.else hph.kid fun c o hc ho => k1 (s := h.sl) (.inr (.inr hc)) ho
    · rw [nown1, hg1]
      refine blks_sr hnd _ fun g hg => (hbl g hg).imp (fun e => e) fun e hm => (hout g hm).2.1 e
    · rw [nown1] at hc
      rw [nown]
      rcases mem1 c hc with rfl | hc | hc
      · exact ⟨.inl mB, by rw [c66]; simp⟩
      · obtain ⟨q1, q2, q3⟩ := hqo c hc
        obtain ⟨o, ho⟩ := Option.ne_none_iff_exists'.1 (hout c q1).2.1
        exact ⟨.inl q1, by rw [e66 c o ho q2 q3]; simp⟩
      · exact ⟨(hbl c hc).imp mR (fun e => ⟨e, fun e2 => by rw [e2, hst0] at e; cases e⟩), own_known own66 hc⟩
    · rw [nh1, List.mem_singleton] at hx
      subst hx
      exact (hvN y (by rw [hg1] at hy; exact hy)).2
    · rw [PN.pt_eq]
      refine .mk ?_ fun k hk => (by cases hk)
      show g1.sh = 3
      rw [hg1]
      exact hsh

end Go.Proofs.YtncgdoeobblnkaaGreat.Vp

/- VcVp8 -/
namespace Go.Proofs.YtncgdoeobblnkaaGreat.Vp

/-- The row is gone, if it was there. -/
structure Gone (u0 u : H) (fp : Nat → Option Tg) (b : Nat) (T : Tr) (id : Int) (u' : H) (fp' : Nat → Option Tg) (T' : Tr) : Prop where
  is : In u0 u' fp' b T'
  turn : TurnG u fp u' fp'
  ok : TOk T'
  rows : ixRows T' = (ixRows T).filter fun x => x.1 != id
  dim : T'.dim = T.dim
  leaf : T'.leaf = T.leaf
  gas : T'.gas = T.gas
  no : id ∉ T'.w.map (·.1)
  few : T'.w.length < 512

theorem spec.Gone {u0 u : H} {fp : Nat → Option Tg} {b : Nat} {T : Tr} {id : Int} {K : Bool → Int → H → Prop} (h : In u0 u fp b T) (hT : TOk T) (hgas : T.gas ≤ 4000) (hfew : id ∉ T.w.map (·.1) → T.w.length < 512)
    (hK : ∀ bb u' fp' T', Gone u0 u fp b T id u' fp' T' → K bb 0 u') : C.vptree_Tree__Delete (some ⟨b, 0, none⟩) id u K := by
  refine spec.Delete h hT hgas (fun hno u1 hu1 => hK _ u1 fp T ⟨h.mono keep hu1, TurnG.mono hu1, hT, ?_, rfl, rfl, rfl, hno, hfew hno⟩) fun hin u1 fp1 T1 hr => hK _ u1 fp1 T1 ⟨hr.is, hr.turn, hr.ok, hr.rows, hr.dim, hr.leaf, hr.gas, ?_, ?_⟩
  · refine (List.filter_eq_self.2 fun x hx => ?_).symm
    have : x.1 ≠ id := fun e => hno (by rw [← keys_ix]; exact List.mem_map.2 ⟨x, hx, e⟩)
    simpa using this
  · rw [← keys_ix, hr.rows]
    intro hm
    obtain ⟨p, hp, e⟩ := List.mem_map.1 hm
    have := (List.mem_filter.1 hp).2
    simp [e] at this
  · have hs := hT.small
    have e1 : T1.w.length = (ixRows T1).length := by simp [ixRows]
    have e2 : T.w.length = (ixRows T).length := by simp [ixRows]
    rw [← keys_ix] at hin
    obtain ⟨p, hp, e⟩ := List.mem_map.1 hin
    have : ((ixRows T).filter fun p => p.1 != id).length < (ixRows T).length := List.length_filter_lt_length_iff_exists.2 ⟨p, hp, by simp [e]⟩
    rw [hr.rows] at e1
    omega

theorem _root_.Go.Proofs.YtncgdoeobblnkaaGreat.PhAt.mono {u u' : H} {x : PH × List Nat} (h : PhAt u x) (hu : u.le u') : PhAt u' x := h.keep (fun c o _ ho => hu c o ho) fun r hr => (h.vec r hr).mono hu

theorem _root_.Go.Proofs.YtncgdoeobblnkaaGreat.Way.mono {sh : Int} {ub u u' : H} {d : Int} {v : List Int} {O W : Nat → Prop} {n0 : PN} {fs : List Hol} {n : PN} (w : Way sh ub u d v O W n0 fs n) (hu : u.le u') : Way sh ub u' d v O W n0 fs n :=
  ⟨w.base.trans hu, fun x hx => (w.one x hx).mono hu, w.nodup, fun c hc => (fun z => ⟨z.1, fun e => z.2.1 (hu.none e), z.2.2⟩) (w.out c hc), w.known, w.vec, w.ok, w.ins, w.box, w.all, w.len, w.b⟩

theorem st_own {u : H} {n : Nat} {id : Int} {s : Sl} {f : H → Prop} (h : u n = some (.cells #[.int .i64 0, .slice none 0 0] 43 (0, 0))) (hf : f (u.ins n (.cells #[.int .i64 id, .slice s.a s.n s.c] 43 (0, 0)))) :
    H.St u (Addr.mk n 0 none) [.int .i64 id, .slice s.a s.n s.c] f := ⟨_, _, h, rfl, by simp, by simp [Value.oneCell'], hf⟩

theorem mem_sum : ∀ {l : List Nat} {x : Nat}, x ∈ l → x ≤ l.sum
  | y :: l, x, h => by
    rw [List.sum_cons]
    rcases List.mem_cons.1 h with rfl | h
    · omega
    · have := mem_sum h
      omega

theorem kid_lt {h : PH} {ks : List PN} {i : Nat} (hi : i < ks.length) : ks[i].heads.length < (PN.mk h ks).heads.length := by
  rw [PN.heads, PN.headsL_eq, List.length_cons, List.length_flatMap]
  have : ks[i].heads.length ≤ (ks.map fun k => k.heads.length).sum := mem_sum (List.mem_map.2 ⟨ks[i], List.getElem_mem hi, rfl⟩)
  omega

theorem spec.Put {u0 u : H} {fp : Nat → Option Tg} {b : Nat} {T : Tr} {id : Int} {t : Sl} {q : List Int} {K : Bool → Int → H → Prop} (h : In u0 u fp b T) (hT : TOk T) (hgas : T.gas ≤ 4000) (ht : Ints u t q) (hkeep : ∀ u1 fp1, u0.le u1 → TurnG u fp u1 fp1 → Ints u1 t q)
    (hbad : mayErr id q T.dim (decide (id ∈ (ixRows T).map (·.1))) (ixRows T).length ≠ 0 → K false (mayErr id q T.dim (decide (id ∈ (ixRows T).map (·.1))) (ixRows T).length) u)
    (hok : mayErr id q T.dim (decide (id ∈ (ixRows T).map (·.1))) (ixRows T).length = 0 → ∀ u' fp' T', PutRes u0 u fp b T id q u' fp' T' → K (decide (id ∉ (ixRows T).map (·.1))) 0 u') : C.vptree_Tree__Put (some ⟨b, 0, none⟩) id t u K := by
  apply vc.vptree_Tree__Put
  refine ⟨fun e => (by cases e), fun _ => ⟨_, rfl, _, H.cell?_of h.tr.cell 4, ?_⟩⟩
  obtain ⟨y, hy, hsome⟩ : ∃ y : Sl, (getL (entL T.w) id).getD (.slice none 0 0) = CT.slice.enc y ∧ (getL (entL T.w) id).isSome = decide (id ∈ (ixRows T).map (·.1)) := by
    rw [keys_ix]
    rcases getE T.w id with ⟨hg, hm⟩ | ⟨e, he, hid, hg⟩
    · exact ⟨⟨none, 0, 0⟩, by rw [hg]; rfl, by rw [hg, decide_eq_false hm]; rfl⟩
    · exact ⟨e.2.1, by rw [hg]; rfl, by rw [hg, decide_eq_true (List.mem_map.2 ⟨e, he, hid⟩)]; rfl⟩
  refine sem_get2 mapTy h.tr.map (ct := .slice) y hy ?_
  rw [hsome]
  refine ⟨_, rfl, _, rfl, _, H.cell?_of h.tr.cell 0, _, H.cell?_of h.tr.cell 4, sem_maplen mapTy h.tr.map ⟨H.le.refl u, spec.flat_May ht ?_⟩⟩
  rw [ent_len]
  refine ⟨fun hne => hbad hne, fun he => ?_⟩
  have hok := hok he
  obtain ⟨d1, d2, hvc, d4⟩ : 1 ≤ id ∧ id ≤ 1000000000 ∧ vcheck q T.dim = 0 ∧ (decide (id ∈ (ixRows T).map (·.1)) = false → ((ixRows T).length : Int) < 512) := by
    unfold mayErr at he
    split at he
    · cases he
    · rename_i h1
      split at he
      · rename_i h2; exact absurd he h2
      · rename_i h2
        split at he
        · cases he
        · rename_i h3
          refine ⟨by omega, by omega, by simpa using h2, fun e => ?_⟩
          by_cases h4 : ((ixRows T).length : Int) < 512
          · exact h4
          · exact absurd ⟨e, by omega⟩ h3
  obtain ⟨e1, e2, e3, e4⟩ := vcheck_ok hvc
  have hb : (!decide (decide (id ∈ (ixRows T).map (·.1)) = true)) = decide (id ∉ (ixRows T).map (·.1)) := by
    by_cases hin : id ∈ (ixRows T).map (·.1) <;> simp [hin]
  have hb' : ∀ z : H, K (decide (id ∉ (ixRows T).map (·.1))) 0 z → K (!decide (decide (id ∈ (ixRows T).map (·.1)) = true)) 0 z := fun z hz => by rw [hb]; exact hz
  refine spec.Gone h hT hgas (fun hno => ?_) fun _ u1 fp1 T1 hg => ?_
  · have := d4 (decide_eq_false (by rw [keys_ix]; exact hno))
    have e5 : T.w.length = (ixRows T).length := by simp [ixRows]
    omega
  have i1 := hg.is
  have ok1 := hg.ok
  have hi1 := hkeep u1 fp1 i1.le hg.turn
  intro K16 h16
  -- the row of its own, made in whatever order
  suffices go : ∀ (nb : Nat) (s16 : Sl) (u17 : H), u1 nb = none → s16.blk ≠ some nb → OwnF u1 u17 3 1 s16 (q.flatMap encI) → u17 nb = some (.cells #[.int .i64 id, .slice s16.a s16.n s16.c] 43 (0, 0)) → K16 ⟨nb, 0, none⟩ u17 by
    have hb63 : t.n ≤ 1099511627776 := by have := hi1.len; omega
    refine ⟨spec.slices_Clone___int_int_ hi1 hb63 fun s16 u17 ho16 _ => ⟨ho16.le, fun n hn => ⟨ho16.le.trans (H.le_ins _ hn), st_own (H.ins_same _ _ _) ?_⟩⟩, fun n hn => ⟨H.le_ins _ hn, spec.slices_Clone___int_int_ (hi1.mono (H.le_ins _ hn)) hb63 fun s16 u17 ho16 _ => ⟨(H.le_ins _ hn).trans ho16.le, st_own (ho16.le _ _ (H.ins_same _ _ _)) ?_⟩⟩⟩
    · rw [H.ins_ins]
      exact go n s16 _ (ho16.le.none hn) (fun e => own_known ho16 e hn) (ho16.mono (H.le_ins _ hn)) (H.ins_same _ _ _)
    · have hne : s16.blk ≠ some n := fun e => by have := ho16.fresh n e; rw [H.ins_same] at this; cases this
      have ho : OwnF u1 u17 3 1 s16 (q.flatMap encI) := ho16.weaken (H.le_ins _ hn)
      exact go n s16 _ hn hne ⟨ho.own.le fun c o hc hx => by rw [H.ins_other _ _ (fun e => hne (by rw [hc, e]))]; exact hx, fun c o hc => by rw [H.ins_other _ _ (fun e => by rw [e, hn] at hc; cases hc)]; exact ho.le c o hc, ho.fresh⟩ (H.ins_same _ _ _)
  intro nb s16 u17 hnb hsnb ho16 dnb
  refine h16 _ _ ?_
  have l17 := ho16.le
  have tr := (InG.mono keep i1 l17).tr
  refine ⟨_, rfl, _, H.cell?_of tr.cell 4, _, H.cell?_of dnb 0, s16, H.cell?_of dnb 1, sem_put mapTy tr.map (getL_none.2 (by unfold entL; rw [List.map_map]; exact hg.no)) fun om hmap => ?_⟩
  obtain ⟨u20, hu20⟩ : ∃ u20, u20 = u17.ins T1.m om := ⟨_, rfl⟩
  rw [← hu20] at hmap ⊢
  have m20 : u20 T1.m = some om := by rw [hu20]; exact H.ins_same _ _ _
  have e20 : ∀ c o, u17 c = some o → c ≠ T1.m → u20 c = some o := fun c o hc hne => by rw [hu20, H.ins_other _ _ hne]; exact hc
  have mb : ∀ {c}, fp1 c ≠ some .map → c ≠ T1.m := fun hc e => hc (by rw [e]; exact tr.mtag)
  have n20 : ∀ {c}, u20 c = none → u1 c = none ∧ s16.blk ≠ some c := fun {c} hc => by
    have hne : c ≠ T1.m := fun e => by rw [e, m20] at hc; cases hc
    have h17 : u17 c = none := by rw [hu20, H.ins_other _ _ hne] at hc; exact hc
    exact ⟨l17.none h17, fun e => own_known ho16 e h17⟩
  have smap : ∀ g, s16.blk = some g → u1 g = none ∧ g ≠ T1.m := fun g hg' => ⟨ho16.fresh g hg', fun e => by
    have := i1.known T1.m (by rw [tr.mtag]; simp)
    rw [← e] at this
    exact this (ho16.fresh g hg')⟩
  have hmap' : MapAt u20 T1.m (entL (T1.w ++ [(id, (s16, q))])) := by
    have : entL (T1.w ++ [(id, (s16, q))]) = entL T1.w ++ [(id, .slice s16.a s16.n s16.c)] := by simp [entL]
    rw [this]; exact hmap
  have sv20 : Ints u20 s16 q := Seg.else ho16.ints fun g o hg' ho => e20 g o ho (smap g hg').2
  have n1 : ∀ {c}, fp1 c ≠ none → c ≠ nb := fun hc e => i1.known _ hc (by rw [e]; exact hnb)
  have d20 : u20 nb = some (.cells #[.int .i64 id, .slice s16.a s16.n s16.c] 43 (0, 0)) := e20 _ _ dnb (n1 (c := T1.m) (by rw [tr.mtag]; simp)).symm
  obtain ⟨st, hst⟩ := tr.src
  have s20 : u20 T1.src = some (.cells #[.int .u64 st] 164 (0, 0)) := e20 _ _ hst (mb (by rw [tr.stag]; simp))
  have ssrc : s16.blk ≠ some T1.src := fun e => i1.known T1.src (by rw [tr.stag]; simp) (smap _ e).1
  have srcb : T1.src ≠ b := fun e => by have := tr.stag; rw [e, tr.btag] at this; cases this
  have srcm : T1.src ≠ T1.m := fun e => by have := tr.stag; rw [e, tr.mtag] at this; cases this
  have c20 : u20 b = some (.cells (treeC T1).toArray 87 (0, 0)) := e20 _ _ tr.cell (mb (by rw [tr.btag]; simp))
  have tl20 : u20.cell? ((Addr.mk b 0 none).add 1) = some (.int .i64 T1.leaf) := H.cell?_of c20 1
  have ts20 : u20.cell? ((Addr.mk b 0 none).add 2) = some (.pointer (some ⟨T1.src, 0, none⟩)) := H.cell?_of c20 2
  have hqd : (q.length : Int) = T1.dim := by rw [hg.dim]; exact e3
  -- what is left when all is in place
  have fin : ∀ u' r, PutFin u1 fp1 b T1 id s16 q u' r → K (!decide (decide (id ∈ (ixRows T).map (·.1)) = true)) 0 u' := fun u' r hf => by
    obtain ⟨fp', T', f1, f2, f3, f4, f5, f6, f7⟩ := hf.res i1 ok1 ⟨d1, d2⟩ ⟨hqd, e4⟩ hg.few
    refine hb' _ (hok u' fp' T' ⟨f1, hg.turn.trans f2, f3, by rw [← hg.rows]; exact f4, f5.trans hg.dim, f6.trans hg.leaf, by rw [← hg.gas]; exact f7⟩)
  have hrokn : ∀ l : List Rw, ((l.map Rw.pr).Perm ((id, q) :: rootAll T1) ∨ ∃ m : List Prw, ((l.map Rw.pr) ++ m).Perm ((id, q) :: rootAll T1)) → Rok l T1.dim := fun l hl => by
    obtain ⟨m, hm⟩ : ∃ m : List Prw, ((l.map Rw.pr) ++ m).Perm ((id, q) :: rootAll T1) := hl.elim (fun h => ⟨[], by rw [List.append_nil]; exact h⟩) fun h => h
    have hp2 : ((l.map Rw.pr) ++ m).Perm ((id, q) :: ixRows T1) := hm.trans (List.Perm.cons _ ok1.rows)
    have hnd : (((id, q) :: ixRows T1).map (·.1)).Nodup := by
      rw [List.map_cons, List.nodup_cons]
      exact ⟨by rw [keys_ix]; exact hg.no, i1.tr.wnodup⟩
    have hlen := hp2.length_eq
    have hfew := hg.few
    simp only [List.length_append, List.length_map, List.length_cons, ixRows] at hlen
    refine rok_pr ok1.dm (by omega) ?_ fun p hp => ?_
    · have := (hp2.map (·.1)).nodup_iff.2 hnd
      rw [List.map_append, List.nodup_append] at this
      rw [show l.map (·.id) = (l.map Rw.pr).map (·.1) by rw [List.map_map]; rfl]
      exact this.1
    · rcases List.mem_cons.1 (hp2.mem_iff.1 (List.mem_append_left _ hp)) with rfl | hp
      · exact ⟨d1, d2, hqd, e4⟩
      · obtain ⟨e, he', rfl⟩ := List.mem_map.1 hp
        exact ⟨(ok1.ids e he').1, (ok1.ids e he').2, ok1.vec e he'⟩
  cases hroot : T1.root with
  | none =>
    have hcr : u20.cell? ((Addr.mk b 0 none).add 3) = some (.pointer none) := by
      have hx : treeC T1 = [.int .i64 T1.dim, .int .i64 T1.leaf, .pointer (some ⟨T1.src, 0, none⟩), .pointer none, .map (some T1.m)] := by simp [treeC, hroot]
      rw [hx] at c20
      exact H.cell?_of c20 3
    have hall0 : rootAll T1 = [] := by unfold rootAll; rw [hroot]
    refine ⟨_, rfl, none, hcr, fun _ => ⟨_, H.cell?_of d20 0, s16, H.cell?_of d20 1, ?_⟩, fun hne => absurd rfl hne⟩
    refine sem_build (build_row1 id s16) fun g hgn => ?_
    obtain ⟨og, hog⟩ : ∃ og, og = (Obj.cells [Value.int .i64 id, .slice s16.a s16.n s16.c].toArray 43 (0, 0)) := ⟨_, rfl⟩
    rw [← hog]
    have l24 : u20.le (u20.ins g og) := H.le_ins _ hgn
    obtain ⟨ux, hux⟩ : ∃ ux, ux = H.no u20 T1.src := ⟨_, rfl⟩
    have lux : ux.le u20 := by rw [hux]; exact no_le _ _
    have ux1 : ∀ {c}, c ≠ T1.src → ux c = u20 c := fun hc => by rw [hux]; exact no_at hc
    have ho24 : OwnF ux (u20.ins g og) 43 2 ⟨some ⟨g, 0, none⟩, 1, 1⟩ (([⟨id, s16, q⟩] : List Rw).flatMap encR) := by
      rw [hog]
      exact (OwnF.make (H.le.refl u20) hgn (cells := [Value.int .i64 id, .slice s16.a s16.n s16.c].toArray) (n := 1) (by omega) rfl).weaken lux
    have cux : ux b = some (.cells (treeC T1).toArray 87 (0, 0)) := by rw [ux1 (Ne.symm srcb)]; exact c20
    have svx : Ints ux s16 q := Seg.else sv20 fun c o hc hx => by rw [ux1 (fun e => ssrc (by rw [hc, e]))]; exact hx
    refine spec.cut (ub := ux) (src := T1.src) (by have := ok1.lf; omega) (H.cell?_of cux 1) (H.cell?_of cux 2) (by rw [hux]; exact no_self _ _) ⟨st, l24 _ _ s20⟩ (fun e => by
      have : g = T1.src := by simpa [Sl.blk] using e
      rw [this, s20] at hgn; cases hgn) ho24 (fun r hr => by rw [List.mem_singleton.1 hr]; exact svx) (hrokn _ (.inl (by rw [hall0]; exact .refl _))) (fun e => by cases e) fun _ u26 n2 hc => ?_
    have gb : g ≠ b := fun e => by rw [e, c20] at hgn; cases hgn
    have k26 : ∀ c o, u20 c = some o → c ≠ T1.src → u26 c = some o := fun c o hc' hns => hc.else' c o (l24 c o hc') (fun e => by
      have : g = c := by simpa [Sl.blk] using e
      rw [this, hc'] at hgn; cases hgn) hns
    have c26 : u26 b = some (.cells #[.int .i64 T1.dim, .int .i64 T1.leaf, .pointer (some ⟨T1.src, 0, none⟩), .pointer none, .map (some T1.m)] 87 (0, 0)) := by
      have := k26 _ _ c20 (Ne.symm srcb)
      rw [show treeC T1 = [.int .i64 T1.dim, .int .i64 T1.leaf, .pointer (some ⟨T1.src, 0, none⟩), .pointer none, .map (some T1.m)] by simp [treeC, hroot]] at this
      exact this
    refine ⟨_, rfl, st_root c26 ?_⟩
    obtain ⟨u28, hu28⟩ : ∃ u28, u28 = u26.ins b (.cells #[.int .i64 T1.dim, .int .i64 T1.leaf, .pointer (some ⟨T1.src, 0, none⟩), .pointer (some ⟨n2.b, 0, none⟩), .map (some T1.m)] 87 (0, 0)) := ⟨_, rfl⟩
    rw [← hu28]
    have k28 : ∀ c o, u26 c = some o → c ≠ b → u28 c = some o := fun c o hc' hne => by rw [hu28, H.ins_other _ _ hne]; exact hc'
    have bown : b ∉ n2.own := fun e => by have := (hc.out b e).1; rw [cux] at this; cases this
    have bm : T1.m ≠ b := fun e => by
      have h1 := tr.mtag
      rw [e, tr.btag] at h1; cases h1
    have sb : ∀ g', s16.blk = some g' → g' ≠ b := fun g' hg' e => by
      have := i1.known b (by rw [tr.btag]; simp)
      rw [← e] at this
      exact this (smap g' hg').1
    have k12 : ∀ c o, u1 c = some o → c ≠ T1.m → c ≠ b → c ≠ T1.src → u28 c = some o := fun c o hc' h1 h2 h3 => k28 c o (k26 c o (e20 c o (l17 c o hc') h1) h3) h2
    have ss : ∀ {g'}, s16.blk = some g' → g' ≠ T1.src := fun hg' e => ssrc (by rw [hg', e])
    refine fin u28 n2 ⟨?_, hmap'.else fun o ho => k28 _ o (k26 _ o ho (Ne.symm srcm)) bm, hc.src.elim fun st' hst' => ⟨st', k28 _ _ hst' srcb⟩, Seg.else sv20 fun g' o hg' ho => k28 g' o (k26 g' o ho (ss hg')) (sb g' hg'), fun g' hg' => ⟨(smap g' hg').1, ?_⟩, fun c o hc' hf => ?_, fun c hc' hf => ?_, fun x hx => ?_, hc.nodup, fun c hc' => ?_, fun x hx r hr g' hg' => ?_, ?_, hc.ok, hc.shp, hc.bin, ?_⟩
    · rw [hu28, H.ins_same]; rfl
    · obtain ⟨o, ho⟩ := Option.ne_none_iff_exists'.1 (own_known ho16 hg')
      rw [k28 g' o (k26 g' o (e20 g' o ho (smap g' hg').2) (ss hg')) (sb g' hg')]; simp
    · refine k12 c o hc' (mb ?_) (fun e => ?_) fun e => by
        rw [e, tr.stag] at hf
        rcases hf with hf | hf <;> cases hf
      · rcases hf with hf | hf <;> rw [hf] <;> simp
      · rw [e, tr.btag] at hf
        rcases hf with hf | hf <;> cases hf
    · by_cases h1 : c = T1.m
      · rw [h1, k28 _ _ (k26 _ _ m20 (Ne.symm srcm)) bm]; simp
      · by_cases h2 : c = b
        · rw [h2, hu28, H.ins_same]; simp
        · by_cases h3 : c = T1.src
          · obtain ⟨st', hst'⟩ := hc.src
            rw [h3, k28 _ _ hst' srcb]; simp
          · obtain ⟨o, ho⟩ := Option.ne_none_iff_exists'.1 hc'
            rw [k12 c o ho h1 h2 h3]; simp
    · refine (hc.one x hx).keep (fun c o hcm ho => k28 c o ho fun e => bown (by rw [← e]; exact List.mem_flatMap.2 ⟨x, hx, hcm⟩)) fun r hr => ?_
      rw [List.mem_singleton.1 (hc.rows x hx r hr)]
      exact Seg.else sv20 fun g' o hg' ho => k28 g' o (k26 g' o ho (ss hg')) (sb g' hg')
    · obtain ⟨q1, q2, q3⟩ := hc.out c hc'
      rw [ux1 q3] at q1
      obtain ⟨o, ho⟩ := Option.ne_none_iff_exists'.1 q2
      exact ⟨.inr (n20 q1), by rw [k28 c o ho (fun e => bown (by rw [← e]; exact hc'))]; simp⟩
    · rw [List.mem_singleton.1 (hc.rows x hx r hr)] at hg'
      exact .inr hg'
    · rw [hall0]; exact hc.all
    · have := hc.size
      simp only [List.length_cons, List.length_nil] at this
      omega
  | some n0 =>
    obtain ⟨q1, q2, q3, q4⟩ := tr.one n0 hroot
    have hcr : u20.cell? ((Addr.mk b 0 none).add 3) = some (.pointer (some ⟨n0.b, 0, none⟩)) := by
      have hx : treeC T1 = [.int .i64 T1.dim, .int .i64 T1.leaf, .pointer (some ⟨T1.src, 0, none⟩), .pointer (some ⟨n0.b, 0, none⟩), .map (some T1.m)] := by simp [treeC, hroot]
      rw [hx] at c20
      exact H.cell?_of c20 3
    have hall0 : rootAll T1 = n0.pt.all := by unfold rootAll; rw [hroot]
    -- all but the parts
    obtain ⟨ub, hub⟩ : ∃ ub : H, ub = fun c => open Classical in if c ∈ n0.own ∨ c = T1.src then none else u20 c := ⟨_, rfl⟩
    have ub1 : ∀ {c}, c ∈ n0.own → ub c = none := fun hc => by rw [hub]; exact if_pos (.inl hc)
    have ubs : ub T1.src = none := by rw [hub]; exact if_pos (.inr rfl)
    have ub2 : ∀ {c}, c ∉ n0.own → c ≠ T1.src → ub c = u20 c := fun hc hs => by rw [hub]; exact if_neg (fun e => e.elim hc hs)
    have lub : ub.le u20 := fun c o' hc => by
      by_cases e : c ∈ n0.own
      · rw [ub1 e] at hc; cases hc
      · by_cases e2 : c = T1.src
        · rw [e2, ubs] at hc; cases hc
        · rw [ub2 e e2] at hc; exact hc
    have notown : ∀ {c}, fp1 c ≠ some .node → c ∉ n0.own := fun hc e => hc (q3 _ e)
    have sown : ∀ g, s16.blk = some g → g ∉ n0.own := fun g hg' e => i1.known g (by rw [q3 g e]; simp) (smap g hg').1
    have sns : ∀ {g}, s16.blk = some g → g ≠ T1.src := fun hg' e => ssrc (by rw [hg', e])
    have cb : ub b = some (.cells (treeC T1).toArray 87 (0, 0)) := by rw [ub2 (notown (by rw [tr.btag]; simp)) (Ne.symm srcb)]; exact c20
    have nbo : nb ∉ n0.own := fun e => n1 (by rw [q3 nb e]; simp) rfl
    have nbs : nb ≠ T1.src := fun e => n1 (c := T1.src) (by rw [tr.stag]; simp) e.symm
    have db : ub nb = some (.cells #[.int .i64 id, .slice s16.a s16.n s16.c] 43 (0, 0)) := by rw [ub2 nbo nbs]; exact d20
    have svb : Ints ub s16 q := Seg.else sv20 fun g o hg' ho => by rw [ub2 (sown g hg') (sns hg')]; exact ho
    have e120 : ∀ c o, u17 c = some o → fp1 c ≠ some .map → fp1 c ≠ some .node → fp1 c ≠ some .src → ub c = some o := fun c o hc h1 h2 h3 => by rw [ub2 (notown h2) (fun e => h3 (by rw [e]; exact tr.stag))]; exact e20 c o hc (mb h1)
    have hvecb : ∀ x ∈ n0.heads, ∀ r ∈ x.1.rows, Ints ub r.s r.v := fun x hx r hr => Seg.else ((q1 x hx).vec r hr) fun g o hg' ho => e120 g o ho (by rw [q4 x hx r hr g hg']; simp) (by rw [q4 x hx r hr g hg']; simp) (by rw [q4 x hx r hr g hg']; simp)
    have w0 : Way 3 ub u20 T1.dim q (fun c => c ≠ T1.src) (fun g => fp1 g = some .vec) n0 [] n0 := by
      refine Way.start lub (fun c hc e => hc (by rw [e]; exact ubs)) (fun x hx => (q1 x hx).keep (fun c o hc ho => e20 c o ho (mb ?_)) fun r hr => (hvecb x hx r hr).mono lub) q2 (fun c hc => ⟨ub1 hc, ?_, fun e => by have := q3 c hc; rw [e, tr.stag] at this; cases this⟩) (fun x hx r hr => ⟨hvecb x hx r hr, fun g hg' => q4 x hx r hr g hg'⟩) (ok1.ok n0 hroot) (ok1.shp n0 hroot)
      · rw [q3 c (List.mem_flatMap.2 ⟨x, hx, hc⟩)]; simp
      · have hk := i1.known c (by rw [q3 c hc]; simp)
        obtain ⟨o, ho⟩ := Option.ne_none_iff_exists'.1 hk
        rw [e20 c o (l17 c o ho) (mb (by rw [q3 c hc]; simp))]; simp
    refine ⟨_, rfl, _, hcr, fun e => (by cases e), fun _ => ⟨_, rfl, _, hcr, ?_⟩⟩
    let At : Option Addr → H → Nat → Prop := fun p w f => ∃ fs n, p = some ⟨n.b, 0, none⟩ ∧ Way 3 ub w T1.dim q (fun c => c ≠ T1.src) (fun g => fp1 g = some .vec) n0 fs n ∧ SrcAt w T1.src ∧ PtBin (plug fs n).pt ∧ n.heads.length = f
    refine ⟨fun p w => ∃ f, At p w f, fun p w => least (At p w), ⟨_, [], n0, rfl, w0, ⟨st, s20⟩, ok1.bin n0 hroot, rfl⟩, fun p33 u34 hI => ?_⟩
    have hfl := least_is hI
    generalize hfe : least (At p33 u34) = f at hfl
    obtain ⟨fs, n, hp, w, ⟨st1, hs1⟩, hbin, hnf⟩ := hfl
    obtain ⟨nh, ks⟩ := n
    obtain rfl : p33 = some ⟨nh.b, 0, none⟩ := hp
    obtain ⟨hph, hnd, hout, hvec, hsh⟩ := w.head
    have hpk := plug_sub fs w.ok
    obtain ⟨dm1, dm2, _, bl1, bl2, bl3⟩ := ball_of hsh hpk
    have cnb : ∀ {z : H}, ub.le z → z.cell? ((Addr.mk nb 0 none).add 1) = some (.slice s16.a s16.n s16.c) := fun hz => H.cell?_of (hz _ _ db) 1
    refine ⟨s16, cnb w.base, spec.grow svb w.base hph hnd (fun c hc => (hout c hc).1) (fun r hr => (hvec r hr).1) bl1 e4 (by omega) (by omega) bl3 fun _ _ u38 hph38 hel hkn => ?_⟩
    obtain ⟨gok, gin⟩ := grow_ok (ks := ks) hsh hpk e4 hqd
    have w38 : Way 3 ub u38 T1.dim q (fun c => c ≠ T1.src) (fun g => fp1 g = some .vec) n0 fs (.mk (growH nh q) ks) := w.turn rfl rfl rfl hph38 hel hkn gok
    have s38 : SrcAt u38 T1.src := ⟨st1, hel _ _ hs1 fun hm => (hout _ hm).2.2 rfl⟩
    have bin38 : PtBin (plug fs (.mk (growH nh q) ks)).pt := plug_bin fs hbin (by
      obtain ⟨b1, b2⟩ := bin_node (bin_sub fs hbin)
      exact bin_of b1 b2)
    have c38 : u38 nh.b = some (.cells (partC (growH nh q)).toArray 96 (0, 0)) := hph38.cell
    have ck : ∀ {z : H}, u38.le z → z.cell? ((Addr.mk nh.b 0 none).add 7) = some (.slice nh.sk.a nh.sk.n nh.sk.c) := fun hz => H.cell?_of (hz _ _ c38) 7
    have hseg : Seg u38 nh.sk 1 ((ks.map PN.b).map fun n => .pointer (some ⟨n, 0, none⟩)) := hph38.kid
    have hskn : nh.sk.n = ks.length := by have := hseg.len; simpa using this.symm
    refine ⟨_, rfl, nh.sk, ck (H.le.refl _), fun h0 => ?_, fun h0 => ?_⟩
    · -- a leaf
      obtain rfl : ks = [] := List.eq_nil_of_length_eq_zero (by omega)
      refine ⟨_, rfl, nh.sr, H.cell?_of c38 6, _, H.cell?_of (w38.base _ _ db) 0, s16, cnb w38.base, ?_⟩
      refine spec.leaf (h := growH nh q) w38 (by have := ok1.lf; omega) (H.cell?_of cb 1) (H.cell?_of cb 2) s38 bin38 svb (hrokn _ (.inr ?_)) gin fun u' r hd hbn hsrc => fin u' r ?_
      · refine ⟨(ctxH fs nh.b).flatMap fun x => x.1.rows.map Rw.pr, ?_⟩
        have e5 := (plug_all fs (.mk nh [])).symm.trans w.all
        rw [hall0]
        have e6 : (PN.mk nh []).pt.all = nh.rows.map Rw.pr := by rw [PN.pt_all, PN.heads, PN.headsL]; simp
        rw [e6] at e5
        rw [List.map_append]
        refine (List.Perm.append_right _ (List.perm_append_singleton _ _)).trans ?_
        exact List.Perm.cons _ e5
      · have rb : treeC { T1 with root := some r } = treeC T1 := by simp [treeC, hroot, hd.b]
        refine ⟨by rw [rb]; exact hd.le _ _ cb, ?_, hsrc, svb.mono hd.le, fun g hg' => ⟨(smap g hg').1, ?_⟩, fun c o hc hf => ?_, fun c hc hf => ?_, hd.one, hd.nodup, fun c hc => ⟨?_, (hd.own c hc).2⟩, fun x hx y hy g hg' => hd.rws x hx y hy g hg', by rw [hall0]; exact hd.all, hd.ok, hd.shp, hbn, ?_⟩
        · exact hmap'.else fun o ho => hd.le _ _ (by rw [ub2 (notown (by rw [tr.mtag]; simp)) (Ne.symm srcm)]; exact ho)
        · obtain ⟨o, ho⟩ := Option.ne_none_iff_exists'.1 (own_known ho16 hg')
          rw [hd.le g o (by rw [ub2 (sown g hg') (sns hg')]; exact e20 g o ho (smap g hg').2)]; simp
        · exact hd.le c o (e120 c o (l17 c o hc) (by rcases hf with hf | hf <;> rw [hf] <;> simp) (by rcases hf with hf | hf <;> rw [hf] <;> simp) (by rcases hf with hf | hf <;> rw [hf] <;> simp))
        · by_cases h1 : c = T1.m
          · rw [h1, hd.le _ _ (by rw [ub2 (notown (by rw [tr.mtag]; simp)) (Ne.symm srcm)]; exact m20)]; simp
          · by_cases h2 : c = T1.src
            · obtain ⟨st', hst'⟩ := hsrc
              rw [h2, hst']; simp
            · obtain ⟨o, ho⟩ := Option.ne_none_iff_exists'.1 hc
              rw [hd.le c o (by rw [ub2 (notown hf) h2]; exact e20 c o (l17 c o ho) h1)]; simp
        · obtain ⟨h1, h2⟩ := (hd.own c hc).1
          by_cases hm : c ∈ n0.own
          · exact .inl (q3 c hm)
          · rw [ub2 hm h2] at h1
            exact .inr (n20 h1)
        · have h1 := hd.size
          have h2 := ok1.size n0 hroot
          omega
    · -- a kid
      have hkl : ks.length = 2 := (bin_node (bin_sub fs hbin)).1.resolve_left fun e => h0 (by omega)
      have kid : ∀ (i : Nat) (hi : i < ks.length), PhAt u38 (ks[i].h, ks[i].kids.map PN.b) ∧ vok ks[i].h.lo ∧ (ks[i].h.lo.length : Int) = T1.dim := fun i hi => by
        have hmem : (ks[i].h, ks[i].kids.map PN.b) ∈ (PN.mk (growH nh q) ks).heads ++ ctxH fs (PN.mk (growH nh q) ks).b := by
          rw [PN.heads, PN.headsL_eq]
          refine List.mem_append_left _ (List.mem_cons_of_mem _ (List.mem_flatMap.2 ⟨ks[i], List.getElem_mem hi, ?_⟩))
          rw [PN.heads_eq]
          exact List.mem_cons_self ..
        have h3 := gok.kids ks[i].pt (by rw [PN.pt_eq]; exact List.mem_map_of_mem (List.getElem_mem hi))
        have hk : ks[i] = .mk ks[i].h ks[i].kids := by cases ks[i]; rfl
        rw [hk] at h3
        obtain ⟨_, _, _, z1, z2, _⟩ := ball_of (show ks[i].h.sh = 3 from w38.box _ hmem) h3
        exact ⟨w38.one _ hmem, z1, z2⟩
      obtain ⟨a0, ha0, hc0⟩ := ptr_at hseg (i := 0) (by simp; omega)
      obtain ⟨a1, ha1, hc1⟩ := ptr_at hseg (i := 1) (by simp; omega)
      obtain rfl : a1 = a0 := by rw [ha0] at ha1; exact (Option.some.inj ha1).symm
      rw [List.getElem_map] at hc0 hc1
      have hc0' : u38.cell? (Addr.add a1 0) = some (.pointer (some ⟨(ks[0]'(by omega)).b, 0, none⟩)) := by simpa using hc0
      have hc1' : u38.cell? (Addr.add a1 1) = some (.pointer (some ⟨(ks[1]'(by omega)).b, 0, none⟩)) := by simpa using hc1
      have klo : ∀ (i : Nat) (hi : i < ks.length) {z : H}, u38.le z → z.cell? ((Addr.mk ks[i].b 0 none).add 1) = some (.slice ks[i].h.sl.a ks[i].h.sl.n ks[i].h.sl.c) := fun i hi z hz => by
        have kc : u38 ks[i].b = some (.cells (partC ks[i].h).toArray 96 (0, 0)) := (kid i hi).1.cell
        exact H.cell?_of (hz _ _ kc) 1
      have dist : ∀ (i : Nat) (hi : i < ks.length) {z : H} {Q : Int → Int → Int → H → Prop}, u38.le z → (∀ x y, U64 x → U64 y → Q x y 0 z) → C.vec_Dist ks[i].h.sl s16 z Q := fun i hi z Q hz hQ => by
        obtain ⟨k1, k2, k3⟩ := kid i hi
        exact spec.vec_Dist (k1.lo.f.ints.mono hz) (svb.mono (w38.base.trans hz)) k2 (by show 1 ≤ ks[i].h.lo.length; omega) e4 (by show ks[i].h.lo.length = q.length; omega) fun x y hx hy _ => hQ x y hx hy
      -- on, into a kid
      have on : ∀ (i : Nat) (hi : i < ks.length) (z : H), u38.le z → (∃ f, At (some ⟨ks[i].b, 0, none⟩) z f) ∧ least (At (some ⟨ks[i].b, 0, none⟩) z) < least (At (some ⟨nh.b, 0, none⟩) u34) := fun i hi z hz => by
        have hks : ks = ks.take i ++ ks[i] :: ks.drop (i + 1) := by rw [← List.drop_eq_getElem_cons hi, List.take_append_drop]
        have wz := w38.mono hz
        have hw : Way 3 ub z T1.dim q (fun c => c ≠ T1.src) (fun g => fp1 g = some .vec) n0 (⟨growH nh q, ks.take i, ks.drop (i + 1)⟩ :: fs) ks[i] := by
          refine Way.kid (by rw [← hks]; exact wz) ?_
          rw [PN.pt_eq] at gin
          exact gin
        have hb2 : PtBin (plug (⟨growH nh q, ks.take i, ks.drop (i + 1)⟩ :: fs) ks[i]).pt := by
          show PtBin (plug fs (.mk (growH nh q) (ks.take i ++ ks[i] :: ks.drop (i + 1)))).pt
          rw [← hks]; exact bin38
        have hlt := kid_lt (h := nh) hi
        have hat : At (some ⟨ks[i].b, 0, none⟩) z ks[i].heads.length := ⟨_, _, rfl, hw, s38.elim fun a b => ⟨a, hz _ _ b⟩, hb2, rfl⟩
        refine ⟨⟨_, hat⟩, ?_⟩
        have := least_le hat
        rw [hfe]
        omega
      intro K75 h75
      have two : ∀ (na : Nat) (x y : Int) (z : H), U64 y → u38.le z → z na = some (.cells [Value.int .u64 x, .int .u64 y].toArray 64 (0, 0)) → K75 ⟨na, 0, none⟩ z := by
        intro na x y z hy hz dna
        refine h75 _ _ ?_
        intro K78 h78
        have cmp : ∀ (nc : Nat) (x' y' : Int) (z' : H), U64 y' → z.le z' → z' nc = some (.cells [Value.int .u64 x', .int .u64 y'].toArray 64 (0, 0)) → K78 ⟨nc, 0, none⟩ z' := by
          intro nc x' y' z' hy' hz' dnc
          have h38 := hz.trans hz'
          refine h78 _ _ ⟨_, H.cell?_of (hz' _ _ dna) 0, _, H.cell?_of (hz' _ _ dna) 1, _, H.cell?_of dnc 0, _, H.cell?_of dnc 1, spec.wide_Cmp hy hy' ⟨fun _ => ?_, fun _ => ?_⟩⟩
          · exact ⟨_, rfl, nh.sk, ck h38, a1, ha0, ⟨by omega, by omega⟩, _, H.le.cell h38 hc0', on 0 (by omega) z' h38⟩
          · exact ⟨_, rfl, nh.sk, ck h38, a1, ha0, ⟨by omega, by omega⟩, _, H.le.cell h38 hc1', on 1 (by omega) z' h38⟩
        refine ⟨_, rfl, nh.sk, ck hz, a1, ha0, ⟨by omega, by omega⟩, _, H.le.cell hz hc1', _, rfl, _, klo 1 (by omega) hz, s16, cnb (w38.base.trans hz), ?_, fun n hn => ⟨H.le_ins _ hn, ?_⟩⟩
        · exact dist 1 (by omega) hz fun x' y' _ hy' n hn => ⟨H.le_ins _ hn, st_new (zs := [.int .u64 0, .int .u64 0]) rfl (by simp [Value.oneCell']) (cmp n x' y' _ hy' (H.le_ins _ hn) (H.ins_same _ _ _))⟩
        · exact dist 1 (by omega) (hz.trans (H.le_ins _ hn)) fun x' y' _ hy' => st_new (zs := [.int .u64 0, .int .u64 0]) rfl (by simp [Value.oneCell']) (cmp n x' y' _ hy' (H.le_ins _ hn) (H.ins_same _ _ _))
      refine ⟨_, rfl, nh.sk, ck (H.le.refl _), a1, ha0, ⟨by omega, by omega⟩, _, hc0', _, rfl, _, klo 0 (by omega) (H.le.refl _), s16, cnb w38.base, ?_, fun n hn => ⟨H.le_ins _ hn, ?_⟩⟩
      · exact dist 0 (by omega) (H.le.refl _) fun x' y' _ hy' n hn => ⟨H.le_ins _ hn, st_new (zs := [.int .u64 0, .int .u64 0]) rfl (by simp [Value.oneCell']) (two n x' y' _ hy' (H.le_ins _ hn) (H.ins_same _ _ _))⟩
      · exact dist 0 (by omega) (H.le_ins _ hn) fun x' y' _ hy' => st_new (zs := [.int .u64 0, .int .u64 0]) rfl (by simp [Value.oneCell']) (two n x' y' _ hy' (H.le_ins _ hn) (H.ins_same _ _ _))

end Go.Proofs.YtncgdoeobblnkaaGreat.Vp

/- VcLawF -/
namespace Go.Proofs.YtncgdoeobblnkaaGreat

theorem spec.theodoliteref05_Searched {t : Sl} {q : List Int} {d k b : Int} {u : H} {K : Int → H → Prop} (ht : Ints u t q) (h : K (if vcheck q d ≠ 0 then vcheck q d else if k < 1 ∨ 64 < k ∨ b < 0 ∨ 1000000 < b then 1 else 0) u) : C.theodoliteref05_Searched t d k b u K := by
  apply vc.theodoliteref05_Searched
  refine spec.theodoliteref03_Check ht ⟨fun hne => by rw [if_pos hne] at h; exact h, fun he => ?_⟩
  rw [if_neg (by simpa using he)] at h
  by_cases hbad : k < 1 ∨ 64 < k ∨ b < 0 ∨ 1000000 < b
  · rw [if_pos hbad] at h
    exact ⟨fun _ => h, fun k1 => ⟨fun _ => h, fun k2 => ⟨fun _ => h, fun b1 => ⟨fun _ => h, fun b2 => by omega⟩⟩⟩⟩
  · rw [if_neg hbad] at h
    exact ⟨fun k1 => by omega, fun _ => ⟨fun k2 => by omega, fun _ => ⟨fun b1 => by omega, fun _ => ⟨fun b2 => by omega, fun _ => h⟩⟩⟩⟩

theorem AnsR.nil (u : H) : AnsR u ⟨none, 0, 0⟩ ⟨none, 0, 0⟩ ⟨none, 0, 0⟩ [] [] [] :=
  ⟨(OwnF.nil (H.le.refl u) 0 3).own.seg, Ints.nil u, (OwnF.nil (H.le.refl u) 0 6).own.seg, fun r hr => by cases hr⟩

end Go.Proofs.YtncgdoeobblnkaaGreat

/- VcOwn2 -/
namespace Go.Proofs.YtncgdoeobblnkaaGreat

def rowsS (s : Sl) (ls : List Rw) : List Sl := s :: ls.map (·.s)

theorem spec.theodolitekeep_SpoilRows {s : Sl} {ls : List Rw} {u0 u : H} {K : H → Prop} (h : RowsO u0 u s ls) (hK : ∀ u', u0.le u' → Keep (rowsS s ls) u u' → K u') : C.theodolitekeep_SpoilRows s u K := by
  have hsn := h.rws.len
  have hsx := h.rws.max
  apply vc.theodolitekeep_SpoilRows
  have hfr : ∀ g, s.blk = some g → u0 g = none := h.own.fresh
  refine ⟨fun i w => 0 ≤ i ∧ i ≤ ls.length ∧ OwnF u0 w 43 2 s ((List.replicate i.toNat (⟨0, ⟨none, 0, 0⟩, []⟩ : Rw) ++ ls.drop i.toNat).flatMap encR) ∧ (∀ r ∈ ls.drop i.toNat, OwnF u0 w 3 1 r.s (r.v.flatMap encI)) ∧ Keep (rowsS s ls) u w,
    fun i _ => ls.length - i.toNat, ⟨by omega, by omega, by simpa using h.own, by simpa using h.inner, Keep.refl _ _⟩, ?_⟩
  rintro i w ⟨i0, i1, ho, hin, hkp⟩
  refine ⟨fun hil => ?_, fun hig => hK w ho.le hkp⟩
  have hi : i.toNat < ls.length := by omega
  obtain ⟨r, hr⟩ : ∃ r, ls[i.toNat]? = some r := ⟨_, List.getElem?_eq_getElem hi⟩
  have hrm : r ∈ ls := List.mem_of_getElem? hr
  have hdrop : ls.drop i.toNat = r :: ls.drop (i.toNat + 1) := by
    rw [List.drop_eq_getElem_cons hi]
    rw [List.getElem?_eq_getElem hi] at hr
    rw [Option.some.inj hr]
  have hget : (List.replicate i.toNat (⟨0, ⟨none, 0, 0⟩, []⟩ : Rw) ++ ls.drop i.toNat)[i.toNat]? = some r := by
    rw [hdrop]
    have := get_mid (List.replicate i.toNat (⟨0, ⟨none, 0, 0⟩, []⟩ : Rw)) r (ls.drop (i.toNat + 1))
    simp
  have hor : OwnF u0 w 3 1 r.s (r.v.flatMap encI) := hin r (by rw [hdrop]; exact .head _)
  have hsr : ∀ g, s.blk = some g → r.s.blk ≠ some g := h.far r hrm
  have rowcell : ∀ {w2 : H}, OwnF u0 w2 43 2 s ((List.replicate i.toNat (⟨0, ⟨none, 0, 0⟩, []⟩ : Rw) ++ ls.drop i.toNat).flatMap encR) → ∃ p, s.a = some p ∧ w2.cell? ((p.add (i.toNat * 2)).add 1) = some (.slice r.s.a r.s.n r.s.c) := fun hw2 => by
    obtain ⟨p, hp, hc⟩ := Seg.elem encR_len (by decide) hw2.own.seg hget
    exact ⟨p, hp, hc 1 _ rfl⟩
  refine ⟨fun k w2 => 0 ≤ k ∧ k ≤ r.v.length ∧ OwnF u0 w2 43 2 s ((List.replicate i.toNat (⟨0, ⟨none, 0, 0⟩, []⟩ : Rw) ++ ls.drop i.toNat).flatMap encR) ∧ (∀ r' ∈ ls.drop (i.toNat + 1), OwnF u0 w2 3 1 r'.s (r'.v.flatMap encI)) ∧
      (∃ v' : List Int, v'.length = r.v.length ∧ OwnF u0 w2 3 1 r.s (v'.flatMap encI)) ∧ Keep (rowsS s ls) u w2, fun k _ => r.v.length - k.toNat,
    ⟨by omega, by omega, ho, fun r' hr' => hin r' (by rw [hdrop]; exact .tail _ hr'), ⟨r.v, rfl, hor⟩, hkp⟩, ?_⟩
  rintro k w2 ⟨k0, k1, ho2, hin2, ⟨v', hv', hov⟩, hkp2⟩
  obtain ⟨p, hp, hc⟩ := rowcell ho2
  have hvn := hov.ints.len
  have hvx := hov.ints.max
  refine ⟨p, hp, ⟨i0, hil⟩, r.s, hc, fun hkl => ?_, fun hkg => ?_⟩
  · obtain ⟨q, hq, hcq⟩ := hov.ints.at k0 hkl
    refine ⟨p, hp, ⟨i0, hil⟩, p, hp, ⟨i0, hil⟩, r.s, hc, r.s, hc, q, hq, ⟨k0, hkl⟩, _, hcq, q, hq, ⟨k0, hkl⟩, ?_⟩
    refine OwnF.store (enc := encI) encI_len hov (by decide) (i := k.toNat) (by omega) (y := bits .xor .i64 (v'.getD k.toNat 0) 60) (encI_one _) hq fun w3 ho3 he3 _ => ⟨⟨by omega, by omega⟩, ⟨by omega, by omega, ?_, fun r' hr' => ?_, ⟨_, by simpa using hv', ho3⟩, hkp2.trans (he3.keep (by simp [rowsS]; exact .inr ⟨r, hrm, rfl⟩))⟩, by dsimp only; omega⟩
    · exact OwnF.else (e := 0) ho2 he3 (fun g hg => hov.fresh g hg) fun g hg e => hsr g e hg
    · have hmem : r' ∈ ls := List.mem_of_mem_drop hr'
      refine OwnF.else (e := 0) (hin2 r' hr') he3 (fun g hg => hov.fresh g hg) fun g hg => ?_
      have hpw := h.apart
      rw [← List.take_append_drop i.toNat ls, hdrop] at hpw
      have h2 := (List.pairwise_cons.1 (List.pairwise_append.1 hpw).2.1).1 r' hr'
      exact h2 g hg
  · refine ⟨p, hp, ⟨i0, hil⟩, ?_⟩
    refine OwnF.store (enc := encR) encR_len ho2 (by decide) (i := i.toNat) (by simp; omega) (y := ⟨0, ⟨none, 0, 0⟩, []⟩) (encR_one _) hp fun w3 ho3 he3 _ => ⟨⟨by omega, by omega⟩, ⟨by omega, by omega, ?_, fun r' hr' => ?_, hkp2.trans (he3.keep (by simp [rowsS]))⟩, by dsimp only; omega⟩
    · have hset : (List.replicate i.toNat (⟨0, ⟨none, 0, 0⟩, []⟩ : Rw) ++ ls.drop i.toNat).set i.toNat ⟨0, ⟨none, 0, 0⟩, []⟩ = List.replicate (i + 1).toNat (⟨0, ⟨none, 0, 0⟩, []⟩ : Rw) ++ ls.drop (i + 1).toNat := by
        rw [hdrop]
        have := set_mid (List.replicate i.toNat (⟨0, ⟨none, 0, 0⟩, []⟩ : Rw)) r ⟨0, ⟨none, 0, 0⟩, []⟩ (ls.drop (i.toNat + 1))
        rw [List.length_replicate] at this
        rw [this, show (i + 1).toNat = i.toNat + 1 by omega, List.replicate_succ']
        simp
      rw [hset] at ho3
      exact ho3
    · rw [show (i + 1).toNat = i.toNat + 1 by omega] at hr'
      have hmem : r' ∈ ls := List.mem_of_mem_drop hr'
      exact OwnF.else (e := 0) (hin2 r' hr') he3 hfr fun g hg => h.far r' hmem g hg

end Go.Proofs.YtncgdoeobblnkaaGreat

/- VcTable -/
namespace Go.Proofs.YtncgdoeobblnkaaGreat

/-- A table in block n. -/
structure TabAt (u : H) (n : Nat) (dim : Int) (L : List Rw) : Prop where
  ex : ∃ (s : Sl) (v : H), u n = some (.cells #[.int .i64 dim, .slice s.a s.n s.c] 79 (0, 0)) ∧ v.le u ∧ v n = none ∧ Rws v s L
  srt : L.Pairwise fun a b => a.id < b.id

abbrev Pr := Int × List Int

def tputP (P : List Pr) (id : Int) (v : List Int) : List Pr := P.filter (fun p => decide (p.1 < id)) ++ (id, v) :: P.filter (fun p => decide (id < p.1))
def tdelP (P : List Pr) (id : Int) : List Pr := P.filter fun p => p.1 != id

theorem srt_split {L : List Rw} (hs : L.Pairwise fun a b => a.id < b.id) {id : Int} {k : Nat} (hk : k ≤ L.length) (h1 : ∀ (i : Nat) r, i < k → L[i]? = some r → r.id < id) (h2 : ∀ r, L[k]? = some r → id ≤ r.id) :
    L.take k = L.filter (fun r => decide (r.id < id)) ∧ (∀ r, L[k]? = some r → r.id ≠ id → L.drop k = L.filter (fun r => decide (id < r.id)) ∧ ∀ r ∈ L, r.id ≠ id) ∧ (L.length ≤ k → L.filter (fun r => decide (id < r.id)) = [] ∧ ∀ r ∈ L, r.id ≠ id) ∧
    (∀ r, L[k]? = some r → r.id = id → L.drop (k + 1) = L.filter (fun r => decide (id < r.id))) := by
  have hA : ∀ r ∈ L.take k, r.id < id := fun r hr => by
    obtain ⟨i, hi, rfl⟩ := List.mem_iff_getElem.1 hr
    simp only [List.length_take] at hi
    exact h1 i _ (by omega) (by rw [List.getElem_take]; exact List.getElem?_eq_getElem (by omega))
  have hB : ∀ r ∈ L.drop k, id ≤ r.id := fun r hr => by
    obtain ⟨i, hi, rfl⟩ := List.mem_iff_getElem.1 hr
    simp only [List.length_drop] at hi
    have hk' : k < L.length := by omega
    have h0 := h2 _ (List.getElem?_eq_getElem hk')
    rw [List.getElem_drop]
    rcases Nat.eq_zero_or_pos i with rfl | hp
    · exact h0
    · have := List.pairwise_iff_getElem.1 hs k (k + i) hk' (by omega) (by omega)
      omega
  have hL : L = L.take k ++ L.drop k := (List.take_append_drop k L).symm
  have e1 : L.filter (fun r => decide (r.id < id)) = L.take k := by
    conv => lhs; rw [hL]
    rw [List.filter_append, List.filter_eq_self.2 fun r hr => by simpa using hA r hr, List.filter_eq_nil_iff.2 fun r hr => by have := hB r hr; simp; omega, List.append_nil]
  have e2 : L.filter (fun r => decide (id < r.id)) = (L.drop k).filter (fun r => decide (id < r.id)) := by
    conv => lhs; rw [hL]
    rw [List.filter_append, List.filter_eq_nil_iff.2 fun r hr => by have := hA r hr; simp; omega, List.nil_append]
  have hC : ∀ r, L[k]? = some r → ∀ r' ∈ L.drop (k + 1), r.id < r'.id := fun r hr r' hr' => by
    obtain ⟨hk', rfl⟩ := List.getElem?_eq_some_iff.1 hr
    obtain ⟨i, hi, rfl⟩ := List.mem_iff_getElem.1 hr'
    simp only [List.length_drop] at hi
    rw [List.getElem_drop]
    exact List.pairwise_iff_getElem.1 hs k (k + 1 + i) hk' (by omega) (by omega)
  refine ⟨e1.symm, fun r hr hne => ?_, fun hl => ?_, fun r hr he => ?_⟩
  · obtain ⟨hk', hrk⟩ := List.getElem?_eq_some_iff.1 hr
    have hge := h2 r hr
    have hall : ∀ r' ∈ L.drop k, id < r'.id := fun r' hr' => by
      rw [List.drop_eq_getElem_cons hk', hrk] at hr'
      rcases List.mem_cons.1 hr' with rfl | hr'
      · omega
      · have := hC r hr r' hr'; omega
    refine ⟨by rw [e2, List.filter_eq_self.2 fun r hr => by simpa using hall r hr], fun r' hr' => ?_⟩
    rw [hL] at hr'
    rcases List.mem_append.1 hr' with h3 | h3
    · have := hA r' h3; omega
    · have := hall r' h3; omega
  · have : L.drop k = [] := List.drop_eq_nil_of_le hl
    refine ⟨by rw [e2, this]; rfl, fun r' hr' => ?_⟩
    rw [hL, this, List.append_nil] at hr'
    have := hA r' hr'; omega
  · obtain ⟨hk', hrk⟩ := List.getElem?_eq_some_iff.1 hr
    rw [e2, List.drop_eq_getElem_cons hk', hrk, List.filter_cons]
    have : decide (id < r.id) = false := by simp; omega
    rw [this]
    simp only [Bool.false_eq_true, if_false]
    rw [List.filter_eq_self.2 fun r' hr' => by have := hC r hr r' hr'; simp; omega]

theorem pr_filter (L : List Rw) (f : Pr → Bool) : (L.filter fun r => f r.pr).map Rw.pr = (L.map Rw.pr).filter f := by
  rw [List.filter_map]; rfl

theorem pr_lt (L : List Rw) (id : Int) : (L.filter fun r => decide (r.id < id)).map Rw.pr = (L.map Rw.pr).filter fun p => decide (p.1 < id) := pr_filter L fun p => decide (p.1 < id)
theorem pr_gt (L : List Rw) (id : Int) : (L.filter fun r => decide (id < r.id)).map Rw.pr = (L.map Rw.pr).filter fun p => decide (id < p.1) := pr_filter L fun p => decide (id < p.1)

theorem srt_take {L : List Rw} (hs : L.Pairwise fun a b => a.id < b.id) {r : Rw} : (L.filter (fun x => decide (x.id < r.id)) ++ r :: L.filter (fun x => decide (r.id < x.id))).Pairwise fun a b => a.id < b.id := by
  refine List.pairwise_append.2 ⟨hs.sublist List.filter_sublist, List.pairwise_cons.2 ⟨fun x hx => by simpa using (List.mem_filter.1 hx).2, hs.sublist List.filter_sublist⟩, fun a ha b hb => ?_⟩
  have h1 : a.id < r.id := by simpa using (List.mem_filter.1 ha).2
  rcases List.mem_cons.1 hb with rfl | hb
  · exact h1
  · have h2 : r.id < b.id := by simpa using (List.mem_filter.1 hb).2
    omega

/-- A table's slice stored. -/
theorem st_tab {u : H} {n : Nat} {dim : Int} {s s' : Sl} {f : H → Prop} (hn : u n = some (.cells #[.int .i64 dim, .slice s.a s.n s.c] 79 (0, 0))) (hf : f (u.ins n (.cells #[.int .i64 dim, .slice s'.a s'.n s'.c] 79 (0, 0)))) :
    H.St u ((Addr.mk n 0 none).add 1) [.slice s'.a s'.n s'.c] f := by
  rw [add1]
  refine ⟨_, _, hn, rfl, by simp, by simp [Value.oneCell'], ?_⟩
  have : wr #[.int .i64 dim, .slice s.a s.n s.c] 1 [.slice s'.a s'.n s'.c] = #[.int .i64 dim, .slice s'.a s'.n s'.c] := by simp [wr]
  simp only [this]
  exact hf

theorem Rws.nil (u : H) : Rws u ⟨none, 0, 0⟩ [] := ⟨⟨rfl, Nat.le_refl _, by decide, .inl rfl⟩, fun _ h => by cases h⟩

/-- The table's new rows, put together: those ahead, one perhaps, those behind. -/
theorem tab_new {u uE : H} {n : Nat} {dim : Int} {s s' : Sl} {v : H} {L' : List Rw} (hu : u.le uE) (hn : u n = some (.cells #[.int .i64 dim, .slice s.a s.n s.c] 79 (0, 0))) (hv : v.le u) (hvn : v n = none)
    (ho : OwnF u uE 43 2 s' (L'.flatMap encR)) (hin : ∀ r ∈ L', Ints v r.s r.v ∨ (Ints uE r.s r.v ∧ ∀ g, r.s.blk = some g → u g = none)) (hs : L'.Pairwise fun a b => a.id < b.id) :
    TabAt (uE.ins n (.cells #[.int .i64 dim, .slice s'.a s'.n s'.c] 79 (0, 0))) n dim L' ∧ ∀ c o, u c = some o → c ≠ n → (uE.ins n (.cells #[.int .i64 dim, .slice s'.a s'.n s'.c] 79 (0, 0))) c = some o := by
  let w : H := fun c => if c = n then none else uE c
  have w1 : w n = none := if_pos rfl
  have w2 : ∀ c, c ≠ n → w c = uE c := fun c hc => if_neg hc
  have hg : ∀ g, s'.blk = some g → g ≠ n := fun g hg e => by have := ho.fresh g hg; rw [e, hn] at this; cases this
  refine ⟨⟨⟨s', w, H.ins_same _ _ _, fun c o hc => ?_, w1, ?_, fun r hr => ?_⟩, hs⟩, fun c o hc hne => by rw [H.ins_other _ _ hne]; exact hu c o hc⟩
  · by_cases e : c = n
    · rw [e, w1] at hc; cases hc
    · rw [w2 c e] at hc; rw [H.ins_other _ _ e]; exact hc
  · exact Seg.else ho.own.seg fun g o h1 h2 => by rw [w2 g (hg g h1)]; exact h2
  · rcases hin r hr with h1 | ⟨h1, h2⟩
    · refine Ints.mono h1 fun c o hc => ?_
      have : c ≠ n := fun e => by rw [e, hvn] at hc; cases hc
      rw [w2 c this]; exact hu c o (hv c o hc)
    · refine Seg.else h1 fun g o h3 h4 => ?_
      have : g ≠ n := fun e => by have := h2 g h3; rw [e, hn] at this; cases this
      rw [w2 g this]; exact h4

theorem spec.theodoliteref05_Table__Delete {u : H} {n : Nat} {dim id : Int} {L : List Rw} {K : Bool → H → Prop} (h : TabAt u n dim L) (hl : L.length ≤ 1000000)
    (hno : (∀ r ∈ L, r.id ≠ id) → K false u) (hyes : (∃ r ∈ L, r.id = id) → ∀ u' L', TabAt u' n dim L' → L'.map Rw.pr = tdelP (L.map Rw.pr) id → (∀ c o, u c = some o → c ≠ n → u' c = some o) → K true u') : C.theodoliteref05_Table__Delete (some ⟨n, 0, none⟩) id u K := by
  obtain ⟨s, v, hn, hv, hvn, hR⟩ := h.ex
  have hR' := hR.mono hv
  have hsn := hR'.len
  have hsx := hR'.max
  have c1 : u.cell? ((Addr.mk n 0 none).add 1) = some (.slice s.a s.n s.c) := by rw [add1]; exact H.cell?_of hn 1
  have hcap := Seg.cap hR'.1
  apply vc.theodoliteref05_Table__Delete
  refine ⟨_, rfl, s, c1, spec.theodoliteref05_find hR' (fun i r hr hid => ⟨fun h0 => by omega, fun _ => ?_⟩) fun hne => ⟨fun _ => hno hne, fun h0 => absurd (by decide) h0⟩⟩
  have hil : i < L.length := (List.getElem?_eq_some_iff.1 hr).1
  refine ⟨_, rfl, s, c1, ?_⟩
  refine sem_slice (P := Tryz.prog) tRows (l := 0) (h := i) (m := s.c) (.inl ⟨rfl, rfl⟩) (.inr rfl) (.inl ⟨rfl, rfl⟩) (by omega) (by omega) (Nat.le_refl _) hcap ?_
  have hA := hR'.part (l := 0) (h := i) (m := s.c) (by omega) (by omega) (by omega) (Nat.le_refl _)
  simp only [List.drop_zero, Nat.sub_zero] at hA
  have hAn : (s.part 0 i s.c 2).n = i := by simp [Sl.part]
  have hmR : ∀ (M : List Rw), ∀ y ∈ M.flatMap encR, y.oneCell' = true := fun M y hy => by
    obtain ⟨r, _, hr⟩ := List.mem_flatMap.1 hy
    exact encR_one r y hr
  have hnilO : OwnF u u 43 2 ⟨none, 0, 0⟩ [] := OwnF.nil (H.le.refl u) 43 2
  refine sem_appendF (s := ⟨none, 0, 0⟩) (x := s.part 0 i s.c 2) tRows (by decide) hnilO hA.1 (hmR _) (by rw [hAn]; show 0 + i ≤ _; omega) (by rw [hAn]; show (0 + i) * 32 ≤ _; omega) fun s8 u9 ho8 hn8 => ⟨_, rfl, s, by rw [add1]; exact H.cell?_of (ho8.le _ _ hn) 1, ⟨by omega, by omega⟩, ?_⟩
  have hR9 := hR'.mono ho8.le
  refine sem_slice (P := Tryz.prog) tRows (l := i + 1) (h := s.n) (m := s.c) (.inr rfl) (.inl ⟨rfl, rfl⟩) (.inl ⟨rfl, rfl⟩) (by omega) hcap (Nat.le_refl _) hcap ?_
  have hB := hR9.part (l := i + 1) (h := s.n) (m := s.c) (by omega) (Nat.le_refl _) hcap (Nat.le_refl _)
  rw [List.take_of_length_le (by simp; omega)] at hB
  have hBn : (s.part (i + 1) s.n s.c 2).n = s.n - (i + 1) := rfl
  rw [hAn] at hn8
  have hn8' : s8.n = i := by rw [hn8]; exact Nat.zero_add i
  refine sem_appendF (s := s8) (x := s.part (i + 1) s.n s.c 2) tRows (by decide) ho8 hB.1 (hmR _) (by rw [hBn]; omega) (by rw [hBn]; omega) fun s14 u15 ho14 _ => ⟨_, rfl, st_tab (ho14.le _ _ hn) ?_⟩
  rw [List.nil_append, ← List.flatMap_append] at ho14
  have hsub : (L.take i ++ L.drop (i + 1)).Sublist L := by
    have := (List.eraseIdx_sublist L i)
    rw [List.eraseIdx_eq_take_drop_succ] at this
    exact this
  obtain ⟨k1, k2⟩ := tab_new ho14.le hn hv hvn ho14 (fun r' hr' => .inl (hR.2 r' (hsub.mem hr'))) (h.srt.sublist hsub)
  refine hyes ⟨r, List.mem_of_getElem? hr, hid⟩ _ _ k1 ?_ k2
  obtain ⟨e1, _, _, e4⟩ := srt_split h.srt (id := id) (k := i) (by omega) (fun j r' hj hr' => by
    obtain ⟨h1, rfl⟩ := List.getElem?_eq_some_iff.1 hr'
    obtain ⟨h2, h3⟩ := List.getElem?_eq_some_iff.1 hr
    have := List.pairwise_iff_getElem.1 h.srt j i h1 h2 hj
    rw [h3] at this; omega) (fun r' hr' => by rw [hr] at hr'; cases hr'; omega)
  rw [e1, e4 r hr hid, List.map_append]
  rw [pr_lt, pr_gt]
  unfold tdelP
  -- both parts of a rising list
  have hsp : (L.map Rw.pr).Pairwise fun a b => a.1 < b.1 := List.pairwise_map.2 h.srt
  generalize L.map Rw.pr = P at hsp
  clear e1 e4 k1 k2 ho14
  induction P with
  | nil => rfl
  | cons p P ih =>
    obtain ⟨hp, hP⟩ := List.pairwise_cons.1 hsp
    have := ih hP
    rcases Int.lt_trichotomy p.1 id with h1 | h1 | h1
    · have a1 : decide (p.1 < id) = true := by simpa using h1
      have a2 : decide (id < p.1) = false := by simp; omega
      have a3 : (p.1 != id) = true := by simp; omega
      simp only [List.filter_cons, a1, a2, a3, if_true, Bool.false_eq_true, if_false, List.cons_append]
      rw [this]
    · have a1 : decide (p.1 < id) = false := by simp; omega
      have a2 : decide (id < p.1) = false := by simp; omega
      have a3 : (p.1 != id) = false := by simp; omega
      simp only [List.filter_cons, a1, a2, a3, Bool.false_eq_true, if_false]
      exact this
    · have a1 : decide (p.1 < id) = false := by simp; omega
      have a2 : decide (id < p.1) = true := by simpa using h1
      have a3 : (p.1 != id) = true := by simp; omega
      have nil : P.filter (fun p => decide (p.1 < id)) = [] := List.filter_eq_nil_iff.2 fun x hx => by have := hp x hx; simp; omega
      rw [nil] at this
      simp only [List.filter_cons, a1, a2, a3, if_true, Bool.false_eq_true, if_false, nil, List.nil_append]
      rw [← this, List.nil_append]

theorem spec.theodoliteref05_Table__Put {u : H} {n : Nat} {dim id : Int} {t : Sl} {q : List Int} {L : List Rw} {K : Bool → Int → H → Prop} (h : TabAt u n dim L) (hl : L.length ≤ 1000000) (ht : Ints u t q)
    (hbad : mayErr id q dim (decide (id ∈ L.map (·.id))) L.length ≠ 0 → K false (mayErr id q dim (decide (id ∈ L.map (·.id))) L.length) u)
    (hok : mayErr id q dim (decide (id ∈ L.map (·.id))) L.length = 0 → ∀ u' L', TabAt u' n dim L' → L'.map Rw.pr = tputP (L.map Rw.pr) id q → (∀ c o, u c = some o → c ≠ n → u' c = some o) → K (decide (id ∉ L.map (·.id))) 0 u') : C.theodoliteref05_Table__Put (some ⟨n, 0, none⟩) id t u K := by
  obtain ⟨s, v, hn, hv, hvn, hR⟩ := h.ex
  have hR' := hR.mono hv
  have hsn := hR'.len
  have hsx := hR'.max
  have c0 : u.cell? ⟨n, 0, none⟩ = some (.int .i64 dim) := H.cell?_of hn 0
  have c1 : u.cell? ((Addr.mk n 0 none).add 1) = some (.slice s.a s.n s.c) := by rw [add1]; exact H.cell?_of hn 1
  have hcap := Seg.cap hR'.1
  have hmR : ∀ (M : List Rw), ∀ y ∈ M.flatMap encR, y.oneCell' = true := fun M y hy => by
    obtain ⟨r, _, hr⟩ := List.mem_flatMap.1 hy
    exact encR_one r y hr
  have bad : ∀ z, mayErr id q dim (decide (id ∈ L.map (·.id))) L.length = z → z ≠ 0 → K false z u := fun z e hz => by
    subst e; exact hbad hz
  apply vc.theodoliteref05_Table__Put
  refine spec.theodoliteref03_Id ⟨fun hno => bad 50 ?_ (by decide), fun hid => ?_⟩
  · have : ¬ (1 ≤ id ∧ id ≤ 1000000000) := by simpa using hno
    unfold mayErr; rw [if_pos (by omega)]
  have hid1 : 1 ≤ id ∧ id ≤ 1000000000 := by simpa using hid
  have hnid : ¬ (id < 1 ∨ 1000000000 < id) := by omega
  refine ⟨_, rfl, dim, c0, spec.theodoliteref03_Check ht ⟨fun hne => bad _ ?_ hne, fun he => ?_⟩⟩
  · unfold mayErr; rw [if_neg hnid, if_pos hne]
  intro K6 hK6
  -- where it belongs
  have found : ∀ k : Nat, k ≤ L.length → (∀ (i : Nat) r, i < k → L[i]? = some r → r.id < id) → (∀ r, L[k]? = some r → id ≤ r.id) → K6 k u := by
    intro k hk h1 h2
    obtain ⟨e1, e2, e3, e4⟩ := srt_split h.srt hk h1 h2
    refine hK6 _ _ fun K9 hK9 => ?_
    -- behind the question whether it is fresh
    have fresh : ∀ bb : Bool, (bb = true ↔ id ∉ L.map (·.id)) → (bb = false → ∃ r, L[k]? = some r ∧ r.id = id) → (bb = true → L.drop k = L.filter (fun r => decide (id < r.id))) → K9 bb u := by
      intro bb hbb hbf hbt
      refine hK9 _ _ fun K12 hK12 => ?_
      have put : (bb = true → L.length < 512) → ∀ b13 x14, K12 b13 x14 u := by
        intro hsm b13 x14
        refine hK12 _ _ _ ⟨_, rfl, s, c1, ?_⟩
        refine sem_slice (P := Tryz.prog) tRows (l := k) (h := s.n) (m := s.c) (.inr rfl) (.inl ⟨rfl, rfl⟩) (.inl ⟨rfl, rfl⟩) (by omega) hcap (Nat.le_refl _) hcap ?_
        intro K20 hK20
        -- the rest, whichever it is
        have rest : ∀ (s21 : Sl), Rws u s21 (L.filter fun r => decide (id < r.id)) → s21.n ≤ L.length → K20 s21 u := by
          intro s21 h21 h21n
          have hqn := ht.len
          have hqm : q.length ≤ 64 := by
            have := vcheck_ok he
            omega
          have hnI : OwnF u u 3 1 ⟨none, 0, 0⟩ [] := OwnF.nil (H.le.refl u) 3 1
          have hseg : Seg u t 1 (q.flatMap encI) := by have := ht; unfold Ints at this; rw [← flatI] at this; exact this
          refine hK20 _ _ (sem_appendF (s := ⟨none, 0, 0⟩) (x := t) tInts (by decide) hnI hseg (fun y hy => by
            obtain ⟨r, _, hr⟩ := List.mem_flatMap.1 hy
            exact encI_one r y hr) (by show 0 + t.n ≤ _; omega) (by show (0 + t.n) * 8 ≤ _; omega) fun s23 u24 ho23 _ => ?_)
          rw [List.nil_append] at ho23
          have hn24 := ho23.le _ _ hn
          refine ⟨_, rfl, s, by rw [add1]; exact H.cell?_of hn24 1, ?_⟩
          refine sem_slice (P := Tryz.prog) tRows (l := 0) (h := k) (m := s.c) (.inl ⟨rfl, rfl⟩) (.inr rfl) (.inl ⟨rfl, rfl⟩) (by omega) (by omega) (Nat.le_refl _) hcap ?_
          have hA := (hR'.mono ho23.le).part (l := 0) (h := k) (m := s.c) (by omega) (by omega) (by omega) (Nat.le_refl _)
          simp only [List.drop_zero, Nat.sub_zero] at hA
          have hAn : (s.part 0 k s.c 2).n = k := by simp [Sl.part]
          have hnR : OwnF u24 u24 43 2 ⟨none, 0, 0⟩ [] := OwnF.nil (H.le.refl u24) 43 2
          refine sem_appendF (s := ⟨none, 0, 0⟩) (x := s.part 0 k s.c 2) tRows (by decide) hnR hA.1 (hmR _) (by rw [hAn]; show 0 + k ≤ _; omega) (by rw [hAn]; show (0 + k) * 32 ≤ _; omega) fun s29 u30 ho29 hn29 => ?_
          rw [hAn] at hn29
          have hn29' : s29.n = k := by rw [hn29]; exact Nat.zero_add k
          rw [List.nil_append] at ho29
          refine sem_push' tRows (build_row1 id s23) (by decide) rfl (by simp [Value.oneCell']) ho29 (by omega) (by omega) fun s33 u34 ho33 hn33 _ _ _ => ?_
          have hfl : (L.take k).flatMap encR ++ [.int .i64 id, .slice s23.a s23.n s23.c] = (L.take k ++ [(⟨id, s23, q⟩ : Rw)]).flatMap encR := by simp [encR]
          rw [hfl] at ho33
          have hle34 : u.le u34 := ho23.le.trans ho33.le
          refine sem_appendF (s := s33) (x := s21) tRows (by decide) ho33 (h21.mono hle34).1 (hmR _) (by omega) (by omega) fun s35 u36 ho35 _ => ⟨_, rfl, st_tab (ho35.le _ _ hn24) ?_⟩
          rw [← List.flatMap_append] at ho35
          have hL' : L.take k ++ [(⟨id, s23, q⟩ : Rw)] ++ L.filter (fun r => decide (id < r.id)) = L.filter (fun x => decide (x.id < id)) ++ ⟨id, s23, q⟩ :: L.filter (fun x => decide (id < x.id)) := by rw [e1]; simp
          rw [hL'] at ho35
          have hsrt := srt_take h.srt (r := (⟨id, s23, q⟩ : Rw))
          have hle36 : u.le u36 := ho23.le.trans ho35.le
          have hin : ∀ r ∈ L.filter (fun x => decide (x.id < id)) ++ (⟨id, s23, q⟩ : Rw) :: L.filter (fun x => decide (id < x.id)), Ints v r.s r.v ∨ (Ints u36 r.s r.v ∧ ∀ g, r.s.blk = some g → u g = none) := fun r hr => by
            rcases List.mem_append.1 hr with hr | hr
            · exact .inl (hR.2 r (List.mem_filter.1 hr).1)
            · rcases List.mem_cons.1 hr with rfl | hr
              · exact .inr ⟨(ho23.mono ho35.le).ints, fun g hg => ho23.fresh g hg⟩
              · exact .inl (hR.2 r (List.mem_filter.1 hr).1)
          obtain ⟨k1, k2⟩ := tab_new hle36 hn hv hvn (ho35.weaken ho23.le) hin hsrt
          have hmay : mayErr id q dim (decide (id ∈ L.map (·.id))) L.length = 0 := by
            unfold mayErr
            rw [if_neg hnid, if_neg (by simpa using he), if_neg]
            rintro ⟨h5, h6⟩
            have h7 : id ∉ L.map (·.id) := by simpa using h5
            have := hsm (hbb.2 h7)
            omega
          have hbd : decide (id ∉ L.map (·.id)) = bb := by
            cases bb with
            | true => exact decide_eq_true (hbb.1 rfl)
            | false => exact decide_eq_false fun h5 => by have := hbb.2 h5; cases this
          have := hok hmay _ _ k1 (by
            rw [List.map_append, List.map_cons, pr_lt, pr_gt]
            rfl) k2
          rw [hbd] at this
          exact this
        refine ⟨fun hb => ?_, fun hb => ?_⟩
        · have hbf' : bb = false := by simpa using hb
          obtain ⟨r, hr, hrid⟩ := hbf hbf'
          have hkl : k < L.length := (List.getElem?_eq_some_iff.1 hr).1
          refine ⟨_, rfl, s, c1, ⟨by omega, by omega⟩, ?_⟩
          refine sem_slice (P := Tryz.prog) tRows (l := k + 1) (h := s.n) (m := s.c) (.inr rfl) (.inl ⟨rfl, rfl⟩) (.inl ⟨rfl, rfl⟩) (by omega) hcap (Nat.le_refl _) hcap ?_
          have hB := hR'.part (l := k + 1) (h := s.n) (m := s.c) (by omega) (Nat.le_refl _) hcap (Nat.le_refl _)
          rw [List.take_of_length_le (by simp; omega), e4 r hr hrid] at hB
          exact rest _ hB (by show s.n - (k + 1) ≤ _; omega)
        · have hB := hR'.part (l := k) (h := s.n) (m := s.c) (by omega) (Nat.le_refl _) hcap (Nat.le_refl _)
          rw [List.take_of_length_le (by simp; omega), hbt hb] at hB
          exact rest _ hB (by show s.n - k ≤ _; omega)
      refine ⟨fun hb => ⟨_, rfl, s, c1, fun hmany => bad 2 ?_ (by decide), fun hfew => put (fun _ => by omega) _ _⟩, fun hb => put (fun h5 => by rw [hb] at h5; cases h5) _ _⟩
      have h7 : id ∉ L.map (·.id) := hbb.1 hb
      unfold mayErr
      rw [if_neg hnid, if_neg (by simpa using he), if_pos ⟨decide_eq_false h7, by omega⟩]
    have nin : (∀ r ∈ L, r.id ≠ id) → id ∉ L.map (·.id) := fun h5 hm => by
      obtain ⟨r, hr, e⟩ := List.mem_map.1 hm
      exact h5 r hr e
    refine ⟨_, rfl, s, c1, fun hke => ?_, fun hke => ?_⟩
    · have hkl : L.length ≤ k := by omega
      obtain ⟨f1, f2⟩ := e3 hkl
      exact fresh true ⟨fun _ => nin f2, fun _ => rfl⟩ (fun h5 => by cases h5) fun _ => by rw [f1, List.drop_eq_nil_of_le hkl]
    · have hkl : k < L.length := by omega
      obtain ⟨p, hp, r, hr, d0, d1, d2⟩ := hR'.at (x := (k : Int)) (by omega) (by omega)
      rw [Int.toNat_natCast] at hr
      refine ⟨_, rfl, s, c1, p, hp, ⟨by omega, by omega⟩, _, d0, ?_⟩
      by_cases hrid : r.id = id
      · have : (!decide (r.id = id)) = false := by simp [hrid]
        rw [this]
        exact fresh false ⟨fun h5 => (by cases h5), fun h5 => absurd (List.mem_map.2 ⟨r, List.mem_of_getElem? hr, hrid⟩) h5⟩ (fun _ => ⟨r, hr, hrid⟩) fun h5 => by cases h5
      · have : (!decide (r.id = id)) = true := by simp [hrid]
        rw [this]
        obtain ⟨f1, f2⟩ := e2 r hr hrid
        exact fresh true ⟨fun _ => nin f2, fun _ => rfl⟩ (fun h5 => by cases h5) fun _ => f1
  refine ⟨fun i w => w = u ∧ 0 ≤ i ∧ i ≤ L.length ∧ ∀ (j : Nat) r, j < i.toNat → L[j]? = some r → r.id < id, fun i _ => L.length - i.toNat, ⟨rfl, by omega, by omega, fun j r hj => by simp at hj⟩, ?_⟩
  rintro i w ⟨rfl, i0, i1, hbef⟩
  intro K55 hK55
  refine ⟨_, rfl, s, c1, fun hil => ?_, fun hig => ?_⟩
  · obtain ⟨p, hp, r, hr, d0, d1, d2⟩ := hR'.at i0 hil
    refine ⟨_, rfl, s, c1, p, hp, ⟨i0, hil⟩, _, d0, fun hlt => hK55 _ ⟨⟨by omega, by omega⟩, ⟨rfl, by omega, by omega, fun j r' hj hr' => ?_⟩, by dsimp only; omega⟩, fun hge => ?_⟩
    · by_cases e : j = i.toNat
      · rw [e, hr] at hr'; cases hr'; exact hlt
      · exact hbef j r' (by omega) hr'
    · have := found i.toNat (by omega) hbef fun r' hr' => by rw [hr] at hr'; cases hr'; omega
      rw [Int.toNat_of_nonneg i0] at this
      exact this
  · have := found i.toNat (by omega) hbef fun r' hr' => by
      have := (List.getElem?_eq_some_iff.1 hr').1
      omega
    rw [Int.toNat_of_nonneg i0] at this
    exact this

end Go.Proofs.YtncgdoeobblnkaaGreat

/- VcTable2 -/
namespace Go.Proofs.YtncgdoeobblnkaaGreat

theorem tputP_perm {P : List Pr} {id : Int} (h : id ∉ P.map (·.1)) (v : List Int) : (tputP P id v).Perm ((id, v) :: P) := by
  unfold tputP
  refine List.perm_middle.trans (List.Perm.cons _ ?_)
  induction P with
  | nil => exact List.Perm.refl _
  | cons p P ih =>
    simp only [List.map_cons, List.mem_cons, not_or] at h
    have := ih h.2
    rcases Int.lt_trichotomy p.1 id with h1 | h1 | h1
    · have a1 : decide (p.1 < id) = true := by simpa using h1
      have a2 : decide (id < p.1) = false := by simp; omega
      simp only [List.filter_cons, a1, a2, if_true, Bool.false_eq_true, if_false, List.cons_append]
      exact List.Perm.cons _ this
    · exact absurd h1.symm h.1
    · have a1 : decide (p.1 < id) = false := by simp; omega
      have a2 : decide (id < p.1) = true := by simpa using h1
      simp only [List.filter_cons, a1, a2, if_true, Bool.false_eq_true, if_false]
      exact List.perm_middle.trans (List.Perm.cons _ this)

/-- Rising rows are told by what they are alone. -/
theorem pr_rise_eq {P Q : List Pr} (hp : P.Pairwise fun a b => a.1 < b.1) (hq : Q.Pairwise fun a b => a.1 < b.1) (h : P.Perm Q) : P = Q := by
  induction P generalizing Q with
  | nil => exact (List.eq_nil_of_length_eq_zero (by have := h.length_eq; simpa using this.symm)).symm
  | cons p P ih =>
    cases Q with
    | nil => have := h.length_eq; simp at this
    | cons q Q =>
      obtain ⟨h1, h2⟩ := List.pairwise_cons.1 hp
      obtain ⟨h3, h4⟩ := List.pairwise_cons.1 hq
      have e : p = q := by
        have hpq : p ∈ q :: Q := h.mem_iff.1 (.head _)
        have hqp : q ∈ p :: P := h.mem_iff.2 (.head _)
        rcases List.mem_cons.1 hpq with h5 | h5
        · exact h5
        · rcases List.mem_cons.1 hqp with h6 | h6
          · exact h6.symm
          · have := h3 p h5; have := h1 q h6; omega
      subst e
      rw [ih h2 h4 ((List.perm_cons p).1 h)]

theorem TabAt.rise {u : H} {n : Nat} {dim : Int} {L : List Rw} (h : TabAt u n dim L) : (L.map Rw.pr).Pairwise fun a b => a.1 < b.1 := List.pairwise_map.2 h.srt

theorem ids_pr (L : List Rw) : L.map (·.id) = (L.map Rw.pr).map (·.1) := by rw [List.map_map]; rfl

theorem spec.theodoliteref05_Of {s : Sl} {l : List Rw} {d : Int} {u : H} {K : Option Addr → H → Prop} (hs : Rws u s l) (hl : Rok l d) (hK : ∀ n u' L, u n = none → u.le u' → TabAt u' n d L → (L.map Rw.pr).Perm (l.map Rw.pr) → K (some ⟨n, 0, none⟩) u') : C.theodoliteref05_Of s d u K := by
  have hsn := hs.len
  have hlen := hl.len
  apply vc.theodoliteref05_Of
  intro n hn
  have hle := H.le_ins (u := u) (b := n) (.cells #[.int .i64 d, .slice none 0 0] 79 (0, 0)) hn
  refine ⟨fun i w => 0 ≤ i ∧ i ≤ l.length ∧ u.le w ∧ ∃ L, TabAt w n d L ∧ (L.map Rw.pr).Perm ((l.take i.toNat).map Rw.pr), fun i _ => l.length - i.toNat,
    ⟨by omega, by omega, hle, [], ⟨⟨⟨none, 0, 0⟩, u, H.ins_same _ _ _, hle, hn, Rws.nil u⟩, List.Pairwise.nil⟩, by simp⟩, ?_⟩
  rintro i w ⟨i0, i1, hw, L, hT, hp⟩
  refine ⟨fun hil => ?_, fun hig => ?_⟩
  · obtain ⟨p, hp', r, hr, c0, c1, c2⟩ := (hs.mono hw).at i0 hil
    have hi : i.toNat < l.length := by omega
    have hrm : r ∈ l := List.mem_of_getElem? hr
    have hLl : L.length = i.toNat := by have := hp.length_eq; simp at this; omega
    have hnin : r.id ∉ L.map (·.id) := fun hm => by
      rw [ids_pr] at hm
      have hm2 := ((hp.map (·.1)).mem_iff (a := r.id)).1 hm
      rw [← ids_pr] at hm2
      obtain ⟨r', hr', e⟩ := List.mem_map.1 hm2
      obtain ⟨j, hj, rfl⟩ := List.mem_iff_getElem.1 hr'
      simp only [List.length_take] at hj
      rw [List.getElem_take] at e
      have := List.pairwise_iff_getElem.1 hl.nodup j i.toNat (by simp; omega) (by simp; omega) (by omega)
      simp only [List.getElem_map] at this
      rw [List.getElem?_eq_getElem hi] at hr
      rw [Option.some.inj hr] at this
      exact this e
    have hv := hl.v r hrm
    have hid := hl.id r hrm
    have hmay : mayErr r.id r.v d (decide (r.id ∈ L.map (·.id))) L.length = 0 := by
      unfold mayErr
      rw [if_neg (by omega), if_neg, if_neg]
      · rintro ⟨_, h2⟩; omega
      · have := ok_vcheck hv.2 (by have := hl.dim; have := hv.1; omega)
        rw [hv.1] at this
        simpa using this
    refine ⟨p, hp', ⟨i0, hil⟩, _, c0, _, c1, spec.theodoliteref05_Table__Put hT (by omega) c2 (fun h => absurd hmay h) fun _ u' L' hT' hL' hk => ⟨⟨by omega, by omega⟩, ⟨by omega, by omega, fun c o hc => hk c o (hw c o hc) fun e => (by rw [e, hn] at hc; cases hc), L', hT', ?_⟩, by dsimp only; omega⟩⟩
    rw [hL', show (i + 1).toNat = i.toNat + 1 by omega, List.take_add_one, hr, List.map_append]
    refine (tputP_perm (by rw [← ids_pr]; exact hnin) r.v).trans ?_
    refine (List.Perm.cons _ hp).trans ?_
    exact (List.perm_append_singleton _ _).symm
  · have hi : i.toNat = l.length := by
      have : ¬ i < (s.n : Int) := hig
      omega
    rw [hi, List.take_length] at hp
    exact hK n w L hn hw hT hp

end Go.Proofs.YtncgdoeobblnkaaGreat

/- VcIxVp -/
namespace Go.Proofs.YtncgdoeobblnkaaGreat

abbrev Tr := Vp.Tr
abbrev ixRows (X : Tr) : List Pr := Vp.ixRows X
noncomputable abbrev ixH (X : Tr) (q : List Int) (k bud : Int) : List Hit := Vp.ixH X q k bud
noncomputable abbrev ixS (X : Tr) (q : List Int) (k bud : Int) : List Int := Vp.ixS X q k bud
noncomputable abbrev ixR (X : Tr) (q : List Int) (k bud : Int) : List (Int × Int × List Int × List Int × List Int) := Vp.ixR X q k bud
abbrev ixErr (l : List Rw) (dim A _B : Int) : Int := Vp.ixErr l dim A

/-- The puts since it was built, at most. -/
def ixGas (X : Tr) : Nat := X.gas

/-- No table is needed. -/
def TabU (_ : H) : Prop := True

theorem TabU.mono {u u' : H} (_ : TabU u) (_ : u.le u') : TabU u' := trivial

/-- An index in memory: D: the blocks that are its own, all made behind u0. -/
abbrev Ix (u0 u : H) (D : Nat → Prop) (b : Nat) (X : Tr) : Prop := IxG Vp.TrAt Vp.TOk u0 u D b X

theorem Ix.base {u0 u : H} {D : Nat → Prop} {b : Nat} {X : Tr} (h : Ix u0 u D b X) : u0.le u ∧ (∀ c, D c → u0 c = none) ∧ ∀ c, D c → u c ≠ none := IxG.base h
theorem Ix.same {u0 u u' : H} {D : Nat → Prop} {b : Nat} {X : Tr} (h : Ix u0 u D b X) (hu : ∀ c o, u c = some o → D c → u' c = some o) (hle : u0.le u') : Ix u0 u' D b X := IxG.same Vp.keep h hu hle
theorem Ix.mono {u0 u u' : H} {D : Nat → Prop} {b : Nat} {X : Tr} (h : Ix u0 u D b X) (hu : u.le u') : Ix u0 u' D b X := IxG.mono Vp.keep h hu
theorem Ix.rebase {u0 u v : H} {D : Nat → Prop} {b : Nat} {X : Tr} (h : Ix u0 u D b X) (hv : v.le u0) : Ix v u D b X := IxG.rebase h hv

theorem spec.ix_Len {u0 u : H} {D : Nat → Prop} {b : Nat} {X : Tr} {K : Int → H → Prop} (h : Ix u0 u D b X) (hK : K (ixRows X).length u) : C.vptree_Tree__Len (some ⟨b, 0, none⟩) u K := by
  obtain ⟨fp, _, h2, _⟩ := IxG.ex h
  exact Vp.spec.Len h2 hK

theorem spec.ix_Put0 {u0 u : H} {D : Nat → Prop} {b : Nat} {X : Tr} {id : Int} {t : Sl} {q : List Int} {K : Bool → Int → H → Prop} (h : Ix u0 u D b X) (hgas : ixGas X ≤ 2700) (ht : Ints u t q) (hts : ∀ (fp : Nat → Option Vp.Tg) u1 (fp1 : Nat → Option Vp.Tg), (∀ c, D c ↔ fp c ≠ none) → u0.le u1 → TurnG u fp u1 fp1 → Ints u1 t q)
    (hbad : mayErr id q X.dim (decide (id ∈ (ixRows X).map (·.1))) (ixRows X).length ≠ 0 → K false (mayErr id q X.dim (decide (id ∈ (ixRows X).map (·.1))) (ixRows X).length) u)
    (hok : mayErr id q X.dim (decide (id ∈ (ixRows X).map (·.1))) (ixRows X).length = 0 → ∀ u' D' X', Ix u0 u' D' b X' → IxTurn u D u' D' → (ixRows X').Perm ((id, q) :: (ixRows X).filter fun x => x.1 != id) → X'.dim = X.dim → X'.links = X.links → ixGas X' ≤ ixGas X + 1 → K (decide (id ∉ (ixRows X).map (·.1))) 0 u') :
    C.vptree_Tree__Put (some ⟨b, 0, none⟩) id t u K := by
  obtain ⟨fp, h1, h2, h3⟩ := IxG.ex h
  exact Vp.spec.Put h2 h3 (Nat.le_trans hgas (by decide)) ht (fun u1 fp1 hle ht1 => hts fp u1 fp1 h1 hle ht1) hbad fun he u' fp' T' hr => hok he u' _ T' (ixg_of hr.is hr.ok) (turn_ixg h1 hr.turn) hr.rows hr.dim hr.leaf hr.gas

theorem spec.ix_Put {u0 u : H} {D : Nat → Prop} {b : Nat} {X : Tr} {id : Int} {t : Sl} {q : List Int} {K : Bool → Int → H → Prop} (h : Ix u0 u D b X) (hgas : ixGas X ≤ 2700) (_ : TabU u0) (ht : Ints u t q) (hts : ∀ g, t.blk = some g → ¬ D g)
    (hbad : mayErr id q X.dim (decide (id ∈ (ixRows X).map (·.1))) (ixRows X).length ≠ 0 → K false (mayErr id q X.dim (decide (id ∈ (ixRows X).map (·.1))) (ixRows X).length) u)
    (hok : mayErr id q X.dim (decide (id ∈ (ixRows X).map (·.1))) (ixRows X).length = 0 → ∀ u' D' X', Ix u0 u' D' b X' → IxTurn u D u' D' → (ixRows X').Perm ((id, q) :: (ixRows X).filter fun x => x.1 != id) → X'.dim = X.dim → X'.links = X.links → ixGas X' ≤ ixGas X + 1 → K (decide (id ∉ (ixRows X).map (·.1))) 0 u') :
    C.vptree_Tree__Put (some ⟨b, 0, none⟩) id t u K :=
  spec.ix_Put0 h hgas ht (fun fp u1 fp1 h1 _ ht1 => Seg.else ht fun g o hg ho => ht1.keep g o ho (by
    cases e : fp g with
    | none => rfl
    | some x => exact absurd ((h1 g).2 (by rw [e]; simp)) (hts g hg))) hbad hok

theorem spec.ix_Delete {u0 u : H} {D : Nat → Prop} {b : Nat} {X : Tr} {id : Int} {K : Bool → Int → H → Prop} (h : Ix u0 u D b X) (hgas : ixGas X ≤ 2700) (hno : id ∉ (ixRows X).map (·.1) → ∀ u', u.le u' → K false 0 u')
    (hyes : id ∈ (ixRows X).map (·.1) → ∀ u' D' X', Ix u0 u' D' b X' → IxTurn u D u' D' → ixRows X' = (ixRows X).filter (fun x => x.1 != id) → X'.dim = X.dim → X'.links = X.links → ixGas X' ≤ ixGas X → K true 0 u') : C.vptree_Tree__Delete (some ⟨b, 0, none⟩) id u K := by
  obtain ⟨fp, h1, h2, h3⟩ := IxG.ex h
  have hw : id ∈ X.w.map (·.1) ↔ id ∈ (ixRows X).map (·.1) := by rw [show ixRows X = Vp.ixRows X from rfl, Vp.keys_ix]
  exact Vp.spec.Delete h2 h3 (Nat.le_trans hgas (by decide)) (fun hn => hno fun hm => hn (hw.2 hm)) fun hn u' fp' T' hr => hyes (hw.1 hn) u' _ T' (ixg_of hr.is hr.ok) (turn_ixg h1 hr.turn) hr.rows hr.dim hr.leaf (Nat.le_of_eq hr.gas)

theorem spec.ix_Rows {u0 u : H} {D : Nat → Prop} {b : Nat} {X : Tr} {K : Sl → H → Prop} (h : Ix u0 u D b X) (hK : ∀ s ls u', RowsO u u' s ls → (ls.map Rw.pr).Perm (ixRows X) → (ls.Pairwise fun a b => a.id ≤ b.id) → K s u') : C.vptree_Tree__Rows (some ⟨b, 0, none⟩) u K := by
  obtain ⟨fp, _, h2, h3⟩ := IxG.ex h
  exact Vp.spec.Rows h2 h3 hK

theorem spec.ix_Build {s : Sl} {l : List Rw} {dim A B seed : Int} {u : H} {K : Option Addr → Int → H → Prop} (hs : Rws u s l) (_ : TabU u) (_ : U64 seed)
    (hbad : ixErr l dim A B ≠ 0 → K none (ixErr l dim A B) u) (hok : ixErr l dim A B = 0 → ∀ b D X u', Ix u u' D b X → (ixRows X).Perm (l.map Rw.pr) → X.dim = dim → X.links = A → ixGas X = 0 → K (some ⟨b, 0, none⟩) 0 u') : C.theodolitelaw08_build s dim A B seed u K := by
  apply vc.theodolitelaw08_build
  exact Vp.spec.Build hs hbad fun he u' b _ T hr => hok he b _ T u' (ixg_of hr.is hr.ok) hr.rows hr.dim hr.leaf hr.gas

theorem spec.ix_Search {u0 u : H} {D : Nat → Prop} {b : Nat} {X : Tr} {t : Sl} {q : List Int} {k bud : Int} {K : Sl → Sl → Sl → Int → H → Prop} (h : Ix u0 u D b X) (hgas : ixGas X ≤ 2700) (ht : Ints u t q)
    (hbad : askErr q X.dim k bud ≠ 0 → ∀ u', u.le u' → K ⟨none, 0, 0⟩ ⟨none, 0, 0⟩ ⟨none, 0, 0⟩ (askErr q X.dim k bud) u')
    (hok : askErr q X.dim k bud = 0 → ∀ sh ss sr rest u', AnsO u u' sh ss sr (ixH X q k bud) (ixS X q k bud) rest → rest.map Rgn.core = ixR X q k bud → K sh ss sr 0 u') : C.vptree_Tree__Search (some ⟨b, 0, none⟩) t k bud u K := by
  obtain ⟨fp, _, h2, h3⟩ := IxG.ex h
  exact Vp.spec.Search h2 h3 hgas ht (fun hne => hbad hne u (H.le.refl u)) hok

/- No index. -/
theorem spec.ix_NilPut {id : Int} {s : Sl} {u : H} {K : Bool → Int → H → Prop} (h : ∀ u', u.le u' → K false 3 u') : C.vptree_Tree__Put none id s u K :=
  vc.vptree_Tree__Put none id s _ _ ⟨fun _ => h _ (H.le.refl u), fun hne => absurd rfl hne⟩
theorem spec.ix_NilDelete {id : Int} {u : H} {K : Bool → Int → H → Prop} (h : ∀ u', u.le u' → K false 3 u') : C.vptree_Tree__Delete none id u K :=
  vc.vptree_Tree__Delete none id _ _ fun nd hnd => ⟨fun _ => h _ (H.le_ins (b := nd) (.cells #[.int .i64 id] 3 (0, 0)) hnd), fun hne => absurd rfl hne⟩
theorem spec.ix_NilSearch {s : Sl} {k bud : Int} {u : H} {K : Sl → Sl → Sl → Int → H → Prop} (h : ∀ u', u.le u' → K ⟨none, 0, 0⟩ ⟨none, 0, 0⟩ ⟨none, 0, 0⟩ 3 u') : C.vptree_Tree__Search none s k bud u K :=
  vc.vptree_Tree__Search none s k bud _ _ ⟨fun _ => h _ (H.le.refl u), fun hne => absurd rfl hne⟩
theorem spec.ix_NilLen {u : H} {K : Int → H → Prop} (h : K 0 u) : C.vptree_Tree__Len none u K :=
  vc.vptree_Tree__Len none _ _ ⟨fun _ => h, fun hne => absurd rfl hne⟩
theorem spec.ix_NilRows {u : H} {K : Sl → H → Prop} (h : K ⟨none, 0, 0⟩ u) : C.vptree_Tree__Rows none u K :=
  vc.vptree_Tree__Rows none _ _ ⟨fun _ => h, fun hne => absurd rfl hne⟩

theorem ix_sound3 {u0 u : H} {D : Nat → Prop} {b : Nat} {X : Tr} (h : Ix u0 u D b X) {q : List Int} {k bud : Int} (he : askErr q X.dim k bud = 0) {L : List Rw} (hL : (L.map Rw.pr).Perm (ixRows X)) (hq : Qok L q) {rest : List Rgn} (hr : rest.map Rgn.core = ixR X q k bud) :
    Sound L q k (ixH X q k bud) (ixS X q k bud) rest ∧ ((ixS X q k bud).length : Int) ≤ bud ∧ (((ixS X q k bud).length : Int) = bud ∨ (ixS X q k bud).length = L.length ∨ CertA q k (ixH X q k bud) rest) := by
  obtain ⟨fp, _, h2, h3⟩ := IxG.ex h
  obtain ⟨hv, k1, _, b0, _⟩ := askErr_ok.1 he
  exact Vp.tree_sound h3 k1 b0 (vcheck_ok hv).2.2.1 hL hq hr

theorem ixErr_pr {d A B : Int} {l l' : List Rw} (h : l.map Rw.pr = l'.map Rw.pr) : ixErr l d A B = ixErr l' d A B := by
  unfold ixErr Vp.ixErr
  rw [rcheck_pr h]

theorem ixErr_rok {l : List Rw} {d A B : Int} (h : ixErr l d A B = 0) : Rok l d := by
  unfold ixErr Vp.ixErr at h
  split at h
  · rename_i h1; exact absurd h h1
  · rename_i h1
    exact rcheck_ok.1 (Classical.not_not.1 h1)

theorem spec.theodolitelaw08_wrong {s : Sl} {l : List Rw} {d A B seed : Int} {u : H} {K : Int → H → Prop} (hs : Rws u s l) (h : K (ixErr l d A B) u) : C.theodolitelaw08_wrong s d A B seed u K := by
  apply vc.theodolitelaw08_wrong
  have key : ∀ z, ixErr l d A B = z → K z u := fun z e => by rw [← e]; exact h
  refine spec.theodoliteref05_Check hs ⟨fun he => ?_, fun hne => key _ (by unfold ixErr Vp.ixErr; rw [if_pos hne])⟩
  apply vc.theodolitelaw08_right
  have bad : (A < 1 ∨ 64 < A) → K 1 u := fun hc => key _ (by unfold ixErr Vp.ixErr; rw [if_neg (by simpa using he), if_pos hc])
  refine ⟨fun a1 => ⟨fun hn => bad (.inr ?_), fun hy => ?_⟩, fun a1 => ⟨fun _ => bad (.inl (by omega)), fun e => (by cases e)⟩⟩
  · by_cases h3 : A ≤ 64
    · exact absurd (decide_eq_true h3) hn
    · omega
  · rw [he]
    have ha := of_decide_eq_true hy
    exact key 0 (by unfold ixErr Vp.ixErr; rw [if_neg (by simpa using he), if_neg (by omega)])

end Go.Proofs.YtncgdoeobblnkaaGreat

/- VcLawT1 -/
namespace Go.Proofs.YtncgdoeobblnkaaGreat

structure Cll where
  kind : Int
  id : Int
  k : Int
  bud : Int
  rid : Int
  rv : Sl
  v : List Int
  qs : Sl
  q : List Int

def encO (o : Cll) : List Value := [.int .i64 o.kind, .int .i64 o.id, .int .i64 o.k, .int .i64 o.bud, .int .i64 o.rid, .slice o.rv.a o.rv.n o.rv.c, .slice o.qs.a o.qs.n o.qs.c]
theorem encO_len (o : Cll) : (encO o).length = 7 := rfl
theorem encO_one (o : Cll) : ∀ v ∈ encO o, v.oneCell' = true := by simp [encO, Value.oneCell']

/-- Calls in memory. -/
def Ops (u : H) (s : Sl) (l : List Cll) : Prop := Seg u s 7 (l.flatMap encO) ∧ ∀ o ∈ l, Ints u o.rv o.v ∧ Ints u o.qs o.q

theorem Ops.len {u : H} {s : Sl} {l : List Cll} (h : Ops u s l) : s.n = l.length := flat_n encO_len (by decide) h.1
theorem Ops.max {u : H} {s : Sl} {l : List Cll} (h : Ops u s l) : s.n ≤ 9223372036854775807 := Nat.le_trans (Seg.cap h.1) (Seg.max h.1)
theorem Ops.mono {u u' : H} {s : Sl} {l : List Cll} (h : Ops u s l) (k : u.le u') : Ops u' s l := ⟨h.1.mono k, fun o ho => ⟨(h.2 o ho).1.mono k, (h.2 o ho).2.mono k⟩⟩
theorem Ops.nil (u : H) : Ops u ⟨none, 0, 0⟩ [] := ⟨⟨rfl, Nat.le_refl _, by decide, .inl rfl⟩, fun _ h => by cases h⟩

theorem Ops.at {u : H} {s : Sl} {l : List Cll} (h : Ops u s l) {x : Int} (h0 : 0 ≤ x) (h1 : x < (s.n : Int)) : ∃ p, s.a = some p ∧ ∃ o : Cll, l[x.toNat]? = some o ∧ o ∈ l ∧ u.cell? (p.add (x.toNat * 7)) = some (.int .i64 o.kind) ∧ u.cell? ((p.add (x.toNat * 7)).add 1) = some (.int .i64 o.id) ∧
    u.cell? ((p.add (x.toNat * 7)).add 2) = some (.int .i64 o.k) ∧ u.cell? ((p.add (x.toNat * 7)).add 3) = some (.int .i64 o.bud) ∧ u.cell? ((p.add (x.toNat * 7)).add 4) = some (.int .i64 o.rid) ∧
    u.cell? ((p.add (x.toNat * 7)).add 5) = some (.slice o.rv.a o.rv.n o.rv.c) ∧ u.cell? ((p.add (x.toNat * 7)).add 6) = some (.slice o.qs.a o.qs.n o.qs.c) ∧ Ints u o.rv o.v ∧ Ints u o.qs o.q := by
  have hn := h.len
  have hlt : x.toNat < l.length := by omega
  have hx : l[x.toNat]? = some l[x.toNat] := List.getElem?_eq_getElem hlt
  obtain ⟨p, hp, hc⟩ := Seg.elem encO_len (by decide) h.1 hx
  have h0' := hc 0 _ rfl
  rw [Addr.add_zero'] at h0'
  have hm := List.getElem_mem hlt
  exact ⟨p, hp, _, hx, hm, h0', hc 1 _ rfl, hc 2 _ rfl, hc 3 _ rfl, hc 4 _ rfl, hc 5 _ rfl, hc 6 _ rfl, (h.2 _ hm).1, (h.2 _ hm).2⟩

/-- What comes in: rows, calls. -/
structure Come2 (u : H) (s t : Sl) (l : List Rw) (ops : List Cll) : Prop where
  rows : Rws u s l
  calls : Ops u t ops
  small : ∀ r ∈ l, r.v.length ≤ 17592186044416
  sn : s.n ≤ 17592186044416
  smallO : ∀ o ∈ ops, o.v.length ≤ 17592186044416 ∧ o.q.length ≤ 17592186044416
  tn : t.n ≤ 17592186044416

theorem spec.theodolitelaw08_big {s t : Sl} {l : List Rw} {ops : List Cll} {u : H} {K : Bool → H → Prop} (hc : Come2 u s t l ops) (h1 : K true u)
    (h2 : l.length ≤ 2000 → ops.length ≤ 2000 → (∀ r ∈ l, r.v.length ≤ 32768) → (∀ o ∈ ops, o.v.length ≤ 32768 ∧ o.q.length ≤ 32768) → K false u) : C.theodolitelaw08_big s t u K := by
  have hsn := hc.rows.len
  have htn := hc.calls.len
  apply vc.theodolitelaw08_big
  intro K0 hK0
  refine ⟨fun _ => h1, fun ht => ⟨fun _ => h1, fun hs => spec.theodolitekeep_Vectors' hc.rows hc.small hc.sn (by omega) fun x hx => ⟨fun _ => h1, fun hx' => hK0 _ _ ?_⟩⟩⟩
  have hv : ∀ r ∈ l, r.v.length ≤ 32768 := fun r hr => by have := hx (by omega) r hr; omega
  have fin : ∀ n : Int, (n ≤ 32768 → ∀ o ∈ ops, o.v.length ≤ 32768 ∧ o.q.length ≤ 32768) → ∀ bb : Bool, (bb = true ↔ 32768 < n) → K bb u := fun n hn bb hb => by
    cases bb with
    | true => exact h1
    | false => exact h2 (by omega) (by omega) hv (hn (by
        by_cases e : 32768 < n
        · have := hb.2 e; cases this
        · omega))
  refine ⟨fun n i w => w = u ∧ 0 ≤ i ∧ i ≤ ops.length ∧ 0 ≤ n ∧ ∀ o ∈ ops.take i.toNat, (o.v.length : Int) ≤ n ∧ (o.q.length : Int) ≤ n, fun _ i _ => ops.length - i.toNat, ⟨rfl, by omega, by omega, by omega, fun o ho => by simp at ho⟩, ?_⟩
  rintro n i w ⟨rfl, i0, i1, n0, hacc⟩
  intro K8 hK8
  refine ⟨fun hil => ⟨fun hn => hK8 _ ?_, fun hn => fin n (fun h => absurd h hn) _ (by simp)⟩, fun hig => fin n (fun hn o ho => ?_) _ (by simp)⟩
  · obtain ⟨p, hp, o, ho, hom, c0, c1, c2, c3, c4, c5, c6, hv1, hv2⟩ := hc.calls.at i0 hil
    have l1 := hv1.len
    have l2 := hv2.len
    obtain ⟨s1, s2⟩ := hc.smallO o hom
    refine ⟨p, hp, ⟨i0, hil⟩, p, hp, ⟨i0, hil⟩, _, by rw [Addr.add_add']; exact c5, ⟨by omega, by omega⟩, _, c6, ⟨by omega, by omega⟩, ⟨by omega, by omega⟩, ⟨rfl, by omega, by omega, by omega, fun o' ho' => ?_⟩, by dsimp only; omega⟩
    rw [show (i + 1).toNat = i.toNat + 1 by omega, List.take_add_one, ho] at ho'
    rcases List.mem_append.1 ho' with h' | h'
    · have := hacc o' h'; omega
    · simp at h'; subst h'; omega
  · have hi : i.toNat = ops.length := by
      have : ¬ i < (t.n : Int) := hig
      omega
    rw [hi, List.take_length] at hacc
    have := hacc o ho
    omega

theorem build_rows4' (a b c d : Sl) : buildOf Tryz.prog 22 4 #[(0, .agg #[.int .i64 1, .slice a.a a.n a.c]), (1, .agg #[.int .i64 2, .slice b.a b.n b.c]), (2, .agg #[.int .i64 3, .slice c.a c.n c.c]), (3, .agg #[.int .i64 4, .slice d.a d.n d.c])] =
    some (43, [.int .i64 1, .slice a.a a.n a.c, .int .i64 2, .slice b.a b.n b.c, .int .i64 3, .slice c.a c.n c.c, .int .i64 4, .slice d.a d.n d.c]) := by kernel_rfl

def exT (a b c d : Sl) : List Rw := [⟨1, a, [0, 0]⟩, ⟨2, b, [3, 4]⟩, ⟨3, c, [0, 1]⟩, ⟨4, d, [30, 40]⟩]

theorem spec.theodolitelaw08_rows {u : H} {K : Sl → H → Prop} (h : ∀ s u' a b c d, u.le u' → Rws u' s (exT a b c d) → K s u') : C.theodolitelaw08_rows u K := by
  apply vc.theodolitelaw08_rows
  refine sem_build (build_ints2 _ _) fun g1 h1 => sem_build (build_ints2 _ _) fun g2 h2 => sem_build (build_ints2 _ _) fun g3 h3 => sem_build (build_ints2 _ _) fun g4 h4 => sem_build (build_rows4' _ _ _ _) fun g5 h5 => ?_
  have i1 := ints_made (H.le.refl u) h1 [0, 0] 3 (by simp)
  have i2 := ints_made (H.le.refl _) h2 [3, 4] 3 (by simp)
  have i3 := ints_made (H.le.refl _) h3 [0, 1] 3 (by simp)
  have i4 := ints_made (H.le.refl _) h4 [30, 40] 3 (by simp)
  have l1 := H.le_ins (u := u) (b := g1) (.cells [Value.int .i64 0, .int .i64 0].toArray 3 (0, 0)) h1
  have l2 := H.le_ins (b := g2) (.cells [Value.int .i64 3, .int .i64 4].toArray 3 (0, 0)) h2
  have l3 := H.le_ins (b := g3) (.cells [Value.int .i64 0, .int .i64 1].toArray 3 (0, 0)) h3
  have l4 := H.le_ins (b := g4) (.cells [Value.int .i64 30, .int .i64 40].toArray 3 (0, 0)) h4
  have m := OwnF.make (k := 2) (H.le.refl _) h5 (cells := [Value.int .i64 1, .slice (some ⟨g1, 0, none⟩) 2 2, .int .i64 2, .slice (some ⟨g2, 0, none⟩) 2 2, .int .i64 3, .slice (some ⟨g3, 0, none⟩) 2 2, .int .i64 4, .slice (some ⟨g4, 0, none⟩) 2 2].toArray) (e := 43) (n := 4) (by omega) rfl
  refine h _ _ ⟨some ⟨g1, 0, none⟩, 2, 2⟩ ⟨some ⟨g2, 0, none⟩, 2, 2⟩ ⟨some ⟨g3, 0, none⟩, 2, 2⟩ ⟨some ⟨g4, 0, none⟩, 2, 2⟩ ?_ ⟨m.own.seg, ?_⟩
  · exact (((l1.trans l2).trans l3).trans l4).trans m.le
  · intro r hr
    simp only [exT, List.mem_cons, List.not_mem_nil, or_false] at hr
    rcases hr with rfl | rfl | rfl | rfl
    · exact i1.mono (((l2.trans l3).trans l4).trans m.le)
    · exact i2.mono ((l3.trans l4).trans m.le)
    · exact i3.mono (l4.trans m.le)
    · exact i4.mono m.le

theorem exT_q (a b c d : Sl) : Qok (exT a b c d) [0, 0] := asked_ok.1 (by kernel_rfl)
theorem exT_top (a b c d : Sl) : topk 2 ((exT a b c d).map (hitOf [0, 0])) = [(1, 0), (3, 1)] := by kernel_rfl
theorem exT_build (a b c d : Sl) : ixErr (exT a b c d) 2 1 0 = 0 := by kernel_rfl

/-- With a budget for all a search tells the first k. -/
theorem ix_enough {u0 u : H} {D : Nat → Prop} {b : Nat} {X : Tr} (h : Ix u0 u D b X) {q : List Int} {k bud : Int} (he : askErr q X.dim k bud = 0) {L : List Rw} (hL : (L.map Rw.pr).Perm (ixRows X)) (hqok : Qok L q) (hb : (L.length : Int) ≤ bud) :
    ixH X q k bud = topk k.toNat (L.map (hitOf q)) ∧ (ixS X q k bud).length ≤ (ixRows X).length := by
  obtain ⟨hv, k1, k2, _, _⟩ := askErr_ok.1 he
  have hlen := hL.length_eq
  rw [List.length_map] at hlen
  obtain ⟨hS, h1, h2⟩ := ix_sound3 h he hL hqok (rgnOf_core (ixR X q k bud))
  have hal := hS.all.length_eq
  rw [List.length_append, List.length_map] at hal
  refine ⟨hS.certain hqok k1 ?_, by omega⟩
  have seenAll : (ixS X q k bud).length = L.length → CertA q k (ixH X q k bud) ((ixR X q k bud).map rgnOf) := fun h2 => by
    left
    generalize (ixR X q k bud).map rgnOf = rest at *
    cases rest with
    | nil => rfl
    | cons r rs =>
      have h3 := (hS.reg r (List.mem_cons_self ..)).2.1
      have h4 := List.length_pos_iff.2 h3
      rw [List.flatMap_cons, List.length_append] at hal
      omega
  rcases h2 with h2 | h2 | h2
  · exact seenAll (by omega)
  · exact seenAll h2
  · exact h2

theorem spec.theodolitelaw08_awake {u : H} {K : Bool → H → Prop} (hTab : TabU u) (h : ∀ u', u.le u' → K true u') : C.theodolitelaw08_awake u K := by
  apply vc.theodolitelaw08_awake
  have q0 : ∀ {w : H} {g : Nat} (hg : w g = none) (x y : Int), Ints (w.ins g (.cells [Value.int .i64 x, .int .i64 y].toArray 3 (0, 0))) ⟨some ⟨g, 0, none⟩, 2, 2⟩ [x, y] := fun {w g} hg x y => ints_made (H.le.refl w) hg [x, y] 3 (by simp)
  refine spec.theodolitelaw08_rows fun s0 u1 a b c d l1 r1 => ?_
  refine spec.ix_Build r1 (hTab.mono l1) ⟨by decide, by decide⟩ (fun hne => absurd (exT_build a b c d) hne) fun _ bt D X u4 hX hrows hdim hlinks hg0 => ?_
  have hlen : (ixRows X).length = 4 := by have := hrows.length_eq; simpa [exT] using this
  intro K5 hK5
  refine ⟨fun e => (by cases e), fun _ => ⟨fun e => absurd rfl e, fun _ => spec.ix_Len hX ⟨fun hne => absurd (by rw [hlen]; rfl) hne, fun _ => hK5 _ _ ?_⟩⟩⟩
  clear hK5 K5
  -- a search
  refine sem_build (build_ints2 0 0) fun g1 h1 => ?_
  have m1 := H.le_ins (u := u4) (b := g1) (.cells [Value.int .i64 0, .int .i64 0].toArray 3 (0, 0)) h1
  have hask : askErr [0, 0] X.dim 2 4 = 0 := by rw [hdim]; decide
  refine spec.ix_Search (hX.mono m1) (by omega) (q0 h1 0 0) (fun hne => absurd hask hne) fun _ s10 s11 s12 rest u14 ha hcore => ?_
  have hhits := (ix_enough hX hask (L := exT a b c d) hrows.symm (exT_q a b c d) (Int.le_refl _)).1
  have e2 : topk (Int.toNat 2) ((exT a b c d).map (hitOf [0, 0])) = [(1, 0), (3, 1)] := exT_top a b c d
  rw [e2] at hhits
  have hoh := ha.h
  rw [hhits] at hoh
  have hX14 := hX.mono (m1.trans ha.le)
  have hD10 : ∀ g, s10.blk = some g → ¬ D g := fun g hg hd => by
    have := ha.h.fresh g hg
    obtain ⟨o, ho⟩ := Option.ne_none_iff_exists'.1 (hX.base.2.2 g hd)
    rw [m1 _ _ ho] at this; cases this
  have hk10 : ∀ g, s10.blk = some g → ∃ o, u14 g = some o := fun g hg => Option.ne_none_iff_exists'.1 (own_known ha.h hg)
  clear hhits hcore ha
  -- puts and a deletion
  refine sem_build (build_ints2 9 9) fun g2 h2 => ?_
  have m2 := H.le_ins (u := u14) (b := g2) (.cells [Value.int .i64 9, .int .i64 9].toArray 3 (0, 0)) h2
  have hid : ∀ x, x ∈ (ixRows X).map (·.1) ↔ x ∈ ([1, 2, 3, 4] : List Int) := fun x => (hrows.map (·.1)).mem_iff
  have t3 : decide ((3 : Int) ∈ (ixRows X).map (·.1)) = true := decide_eq_true ((hid 3).2 (by decide))
  have t3' : decide ((3 : Int) ∉ (ixRows X).map (·.1)) = false := decide_eq_false fun h => h ((hid 3).2 (by decide))
  have hm3 : mayErr 3 [9, 9] X.dim (decide ((3 : Int) ∈ (ixRows X).map (·.1))) (ixRows X).length = 0 := by rw [t3, hdim, hlen]; decide
  have hDn : ∀ {z : H} {g : Nat}, (∀ c, D c → z c ≠ none) → z g = none → ∀ g', (⟨some ⟨g, 0, none⟩, 2, 2⟩ : Sl).blk = some g' → ¬ D g' := fun {z g} hz hg g' hg' hd => by
    have : g = g' := by simpa [Sl.blk] using hg'
    exact hz g' hd (by rw [← this]; exact hg)
  refine spec.ix_Put (hX14.mono m2) (by omega) (hTab.mono l1) (q0 h2 9 9) (hDn hX14.base.2.2 h2) (fun hne => absurd hm3 hne) fun _ u19 D2 X2 hX2 ht2 hr2 hd2 _ hg2 => ?_
  rw [t3']
  have hk19 : ∀ g, s10.blk = some g → ∀ o, u14 g = some o → u19 g = some o ∧ ¬ D2 g := fun g hg o ho => by
    refine ⟨ht2.keep g o (m2 _ _ ho) (hD10 g hg), fun hd => ?_⟩
    rcases ht2.grow g hd with h5 | h5
    · exact hD10 g hg h5
    · rw [m2 _ _ ho] at h5; cases h5
  have hp2 : (ixRows X2).Perm [(3, [9, 9]), (1, [0, 0]), (2, [3, 4]), (4, [30, 40])] := by
    refine hr2.trans (List.Perm.cons _ ?_)
    exact (hrows.filter _).trans (List.Perm.refl _)
  have hid2 : (1 : Int) ∈ (ixRows X2).map (·.1) := (hp2.map (·.1)).mem_iff.2 (by decide)
  refine spec.ix_Delete hX2 (by omega) (fun hno => absurd hid2 hno) fun _ u22 D3 X3 hX3 ht3 hr3 hd3 _ hg3 => ?_
  have hl3 : (ixRows X3).length = 3 := by
    rw [hr3]
    have := (hp2.filter fun x => x.1 != 1).length_eq
    exact this
  have hk22 : ∀ g, s10.blk = some g → ∀ o, u14 g = some o → u22 g = some o := fun g hg o ho => by
    obtain ⟨h5, h6⟩ := hk19 g hg o ho
    exact ht3.keep g o h5 h6
  refine sem_build (build_ints2 1 1) fun g3 h3 => ?_
  have m3 := H.le_ins (u := u22) (b := g3) (.cells [Value.int .i64 1, .int .i64 1].toArray 3 (0, 0)) h3
  have hm0 : mayErr 0 [1, 1] X3.dim (decide ((0 : Int) ∈ (ixRows X3).map (·.1))) (ixRows X3).length = 50 := by unfold mayErr; rw [if_pos (by omega)]
  have hDn3 : ∀ g', (⟨some ⟨g3, 0, none⟩, 2, 2⟩ : Sl).blk = some g' → ¬ D3 g' := fun g' hg' hd => by
    have : g3 = g' := by simpa [Sl.blk] using hg'
    exact hX3.base.2.2 g' hd (by rw [← this]; exact h3)
  refine spec.ix_Put (hX3.mono m3) (by omega) (hTab.mono l1) (q0 h3 1 1) hDn3 (fun _ => ?_) fun he => by rw [hm0] at he; cases he
  rw [hm0]
  have hfin := h _ ((l1.trans (hX3.base.1)).trans m3)
  have hts : Hts _ s10 [((1 : Int), (0 : Int)), (3, 1)] := Seg.else hoh.hts fun g o hg ho => m3 _ _ (hk22 g hg o ho)
  intro K28 hK28
  refine ⟨fun _ => ⟨fun _ => ⟨fun _ => ⟨fun _ => ⟨fun _ => ⟨fun _ => spec.ix_Len (hX3.mono m3) ?_, fun e => (by cases e)⟩, fun e => (by cases e)⟩, fun e => absurd rfl e⟩, fun e => absurd rfl e⟩, fun e => absurd rfl e⟩, fun e => absurd rfl e⟩
  have kt : ∀ bb : Bool, bb = true → K bb (u22.ins g3 (.cells [Value.int .i64 1, .int .i64 1].toArray 3 (0, 0))) := fun bb hb => by rw [hb]; exact hfin
  refine hK28 _ _ ⟨fun _ => ?_, fun hb => ?_⟩
  · have hn2 := hts.len
    refine ⟨fun _ => ?_, fun hne => absurd (by rw [hn2]; rfl) hne⟩
    obtain ⟨p, hp, x, hx, c0, c1, c2⟩ := hts.at (x := 0) (by omega) (by rw [hn2]; decide)
    obtain ⟨p', hp', y, hy, d0, d1, d2⟩ := hts.at (x := 1) (by omega) (by rw [hn2]; decide)
    have hpp : p' = p := by rw [hp] at hp'; exact (Option.some.inj hp').symm
    subst hpp
    have hx' : x = (1, 0) := by simpa using hx.symm
    have hy' : y = (3, 1) := by simpa using hy.symm
    subst hx'; subst hy'
    refine ⟨_, hp, ⟨by omega, by rw [hn2]; decide⟩, _, c0, _, c1, _, c2, fun _ => ⟨_, hp, ⟨by omega, by rw [hn2]; decide⟩, _, d0, _, d1, _, d2, kt _ ?_⟩, fun hne => absurd ⟨rfl, rfl, rfl⟩ hne⟩
    exact decide_eq_true ⟨rfl, rfl, rfl⟩
  · rw [hl3] at hb
    simp at hb

end Go.Proofs.YtncgdoeobblnkaaGreat

/- VcOpen2 -/
namespace Go.Proofs.YtncgdoeobblnkaaGreat
open Go.ChangeShapes Go.WideShapes Go.ChangeAt Go.RowKit

theorem cellsOp : Tryz.prog.cellsOf 45 = 7 := by kernel_rfl
theorem cellsHow : Tryz.prog.cellsOf 25 = 3 := by kernel_rfl
theorem bytesOp : Tryz.prog.bytesOf 45 = 88 := by kernel_rfl

section
variable {H' : Type} {enc : TypeId × Value → H'}

/-- One row, opened. -/
theorem open_row1 {W : World} {cs : List Value} {fuel : Nat} {x : DataW H' × List MemPlace} (h : DataW.trod enc Tryz.prog W 0 (fun _ => true) true fuel 43 cs = some x) (hw : ∀ n ∈ x.1.weights Tryz.prog 43, n ≤ reachBytes) :
    ∃ (i : Int) (s : Sl) (v : List Int), cs = [.int .i64 i, .slice s.a s.n s.c] ∧ Ints (whole W) s v ∧ v.length ≤ 17592186044416 := by
  obtain ⟨y0, y1, k, hxy, hlen, u0, u1⟩ := trod_struct2 Tryz.underlying43 h
  rw [cells41o] at hlen
  match cs, hlen with
  | [v0, v1], _ =>
    simp only [cells3o, cells23o, List.drop, List.take] at u0 u1
    obtain ⟨q, e0, _, _⟩ := DataW.trod_int Tryz.underlying3 u0
    simp only [List.cons.injEq, and_true] at e0
    subst e0
    obtain ⟨s, rfl⟩ := cells_one u1
    obtain ⟨zs, hz, hzl⟩ := open_q u1 (fun n hn => hw n (by
      rw [hxy]
      simp only [DataW.weights, show Tryz.prog.underlying 43 = some _ from Tryz.underlying43]
      simp only [List.map_cons, List.map_nil, DataW.weightsEach, List.mem_append]
      exact .inr (.inl hn)))
    exact ⟨q, s, zs, rfl, hz, hzl⟩

/-- One call, opened. -/
theorem open_op1 {W : World} {cs : List Value} {fuel : Nat} {x : DataW H' × List MemPlace} (h : DataW.trod enc Tryz.prog W 0 (fun _ => true) true fuel 45 cs = some x) (hw : ∀ n ∈ x.1.weights Tryz.prog 45, n ≤ reachBytes) :
    ∃ o : Cll, cs = encO o ∧ Ints (whole W) o.rv o.v ∧ Ints (whole W) o.qs o.q ∧ o.v.length ≤ 17592186044416 ∧ o.q.length ≤ 17592186044416 := by
  obtain ⟨xs, n, _, hxy, hlen, hxl, hf⟩ := DataW.trod_struct Tryz.underlying45 h
  rw [cellsOp] at hlen
  match xs, hxl, cs, hlen with
  | [y0, y1, y2, y3, y4, y5], _, [v0, v1, v2, v3, v4, v5, v6], _ =>
    have f0 : DataW.trod enc Tryz.prog W 0 (fun _ => true) true n 3 (([v0, v1, v2, v3, v4, v5, v6].drop 0).take (Tryz.prog.cellsOf 3)) = some y0 := hf 0 _ rfl
    have f1 : DataW.trod enc Tryz.prog W 0 (fun _ => true) true n 3 (([v0, v1, v2, v3, v4, v5, v6].drop 1).take (Tryz.prog.cellsOf 3)) = some y1 := hf 1 _ rfl
    have f2 : DataW.trod enc Tryz.prog W 0 (fun _ => true) true n 3 (([v0, v1, v2, v3, v4, v5, v6].drop 2).take (Tryz.prog.cellsOf 3)) = some y2 := hf 2 _ rfl
    have f3 : DataW.trod enc Tryz.prog W 0 (fun _ => true) true n 3 (([v0, v1, v2, v3, v4, v5, v6].drop 3).take (Tryz.prog.cellsOf 3)) = some y3 := hf 3 _ rfl
    have f4 : DataW.trod enc Tryz.prog W 0 (fun _ => true) true n 43 (([v0, v1, v2, v3, v4, v5, v6].drop 4).take (Tryz.prog.cellsOf 43)) = some y4 := hf 4 _ rfl
    have f5 : DataW.trod enc Tryz.prog W 0 (fun _ => true) true n 41 (([v0, v1, v2, v3, v4, v5, v6].drop 6).take (Tryz.prog.cellsOf 41)) = some y5 := hf 5 _ rfl
    simp only [cells3o, cells23o, cells41o, List.drop, List.take] at f0 f1 f2 f3 f4 f5
    obtain ⟨q0, e0, _, _⟩ := DataW.trod_int Tryz.underlying3 f0
    obtain ⟨q1, e1, _, _⟩ := DataW.trod_int Tryz.underlying3 f1
    obtain ⟨q2, e2, _, _⟩ := DataW.trod_int Tryz.underlying3 f2
    obtain ⟨q3, e3, _, _⟩ := DataW.trod_int Tryz.underlying3 f3
    have hin : ∀ {t : TypeId} {y : DataW H' × List MemPlace}, ∀ m : Nat, m ∈ y.1.weights Tryz.prog t → (t = 43 ∧ y = y4 ∨ t = 41 ∧ y = y5) → m ≤ reachBytes := fun m hm hc => hw m (by
      rw [hxy]
      simp only [DataW.weights, show Tryz.prog.underlying 45 = some _ from Tryz.underlying45]
      simp only [List.map_cons, List.map_nil, DataW.weightsEach, List.mem_append]
      rcases hc with ⟨rfl, rfl⟩ | ⟨rfl, rfl⟩
      · exact .inr (.inr (.inr (.inr (.inl hm))))
      · exact .inr (.inr (.inr (.inr (.inr (.inl hm))))))
    obtain ⟨ri, rs, rv, er, hr, hrl⟩ := open_row1 f4 (fun m hm => hin m hm (.inl ⟨rfl, rfl⟩))
    obtain ⟨qs, eq⟩ := cells_one f5
    subst eq
    obtain ⟨zs, hz, hzl⟩ := open_q f5 (fun m hm => hin m hm (.inr ⟨rfl, rfl⟩))
    simp only [List.cons.injEq, and_true] at e0 e1 e2 e3 er
    obtain ⟨er0, er1⟩ := er
    subst e0 e1 e2 e3 er0 er1
    exact ⟨⟨q0, q1, q2, q3, ri, rs, rv, qs, zs⟩, rfl, hr, hz, hrl, hzl⟩

/-- A way of building, opened. -/
theorem open_how {W : World} {cs : Array Value} {fuel : Nat} {x : DataW H' × List MemPlace} (h : DataW.trod enc Tryz.prog W 0 (fun _ => true) true fuel 25 cs.toList = some x) :
    ∃ a b s : Int, U64 s ∧ cs = #[.int .i64 a, .int .i64 b, .int .u64 s] := by
  obtain ⟨y0, y1, y2, k, _, hlen, u0, u1, u2⟩ := Deep.trod_struct3 Tryz.underlying25 h
  rw [cellsHow] at hlen
  obtain ⟨cl⟩ := cs
  change cl.length = 3 at hlen
  match cl, hlen with
  | [v0, v1, v2], _ =>
    simp only [cells3o, cells24o, List.drop, List.take] at u0 u1 u2
    obtain ⟨m0, e0, _, _⟩ := DataW.trod_int Tryz.underlying3 u0
    obtain ⟨m1, e1, _, _⟩ := DataW.trod_int Tryz.underlying3 u1
    obtain ⟨m2, e2, _, w2⟩ := DataW.trod_int Tryz.underlying23 u2
    simp only [List.cons.injEq, and_true] at e0 e1 e2
    subst e0 e1 e2
    refine ⟨m0, m1, m2, ?_, rfl⟩
    simp only [Lit.wf, Bool.and_eq_true, decide_eq_true_eq] at w2
    have g1 : IntKind.min .u64 = 0 := by decide
    have g2 : IntKind.max .u64 = 18446744073709551615 := by decide
    rw [g1, g2] at w2
    exact ⟨w2.1, by omega⟩

instance : Inhabited Cll := ⟨⟨0, 0, 0, 0, 0, ⟨none, 0, 0⟩, [], ⟨none, 0, 0⟩, []⟩⟩

/-- Calls, opened. -/
theorem open_ops {W : World} {a : Option Addr} {len cap fuel : Nat} {x : DataW H' × List MemPlace} (h : DataW.trod enc Tryz.prog W 0 (fun _ => true) true fuel 39 [.slice a len cap] = some x) (hw : ∀ n ∈ x.1.weights Tryz.prog 39, n ≤ reachBytes) :
    ∃ l : List Cll, Ops (whole W) ⟨a, len, cap⟩ l ∧ (∀ o ∈ l, o.v.length ≤ 17592186044416 ∧ o.q.length ≤ 17592186044416) ∧ len ≤ 17592186044416 := by
  have hr : reachBytes = 140737488351232 := by decide
  rcases Deep.open_slice Tryz.underlying39 h with ⟨hcs, _⟩ | ⟨p, l, c, m, n, D, Pl, hcs, hb, hl, hm, hmm, hx, hel⟩
  · simp only [List.cons.injEq, Value.slice.injEq, and_true] at hcs
    obtain ⟨rfl, rfl, rfl⟩ := hcs
    exact ⟨[], ⟨⟨rfl, Nat.le_refl _, by simp, .inl rfl⟩, fun _ h => (by cases h)⟩, fun _ h => (by cases h), by omega⟩
  simp only [List.cons.injEq, Value.slice.injEq, and_true] at hcs
  obtain ⟨rfl, rfl, rfl⟩ := hcs
  simp only [if_true] at hmm
  subst hmm
  rw [maxLen_eq] at hm
  have hwt : ∀ k, k ∈ (((List.range len).map D).length + ((List.range (m - len)).map fun j => D (len + j)).length) * Tryz.prog.bytesOf 45 :: (DataW.weightsAll Tryz.prog 45 ((List.range len).map D) ++ DataW.weightsAll Tryz.prog 45 ((List.range (m - len)).map fun j => D (len + j))) → k ≤ reachBytes := by
    intro k hk
    refine hw k ?_
    rw [hx]
    simp only [DataW.weights, show Tryz.prog.underlying 39 = some (.slice 45) from Tryz.underlying39]
    exact hk
  have hcb : len * 32 ≤ reachBytes := by
    have := hwt _ (List.mem_cons_self ..)
    rw [bytesOp] at this
    simp at this
    have e : len + (m - len) = m := by omega
    omega
  have each : ∀ i, i < len → ∃ o : Cll, (∀ j, j < 7 → W.cell? ((p.add (i * 7)).add j) = (encO o)[j]?) ∧ (Ints (whole W) o.rv o.v ∧ Ints (whole W) o.qs o.q) ∧ o.v.length ≤ 17592186044416 ∧ o.q.length ≤ 17592186044416 := by
    intro i hi
    obtain ⟨cs', h1, h2⟩ := hel i (by omega)
    rw [cellsOp] at h1
    obtain ⟨_, hlen, hcell⟩ := World.cells?_some h1
    have hwi : ∀ n ∈ (D i).weights Tryz.prog 45, n ≤ reachBytes := fun n hn => hwt n (List.mem_cons_of_mem _ (List.mem_append_left _ (weights_all (i := i) (d := D i) (by simp [hi]) n hn)))
    obtain ⟨o, rfl, hv, hq, hvl, hql⟩ := open_op1 h2 hwi
    exact ⟨o, hcell, ⟨hv, hq⟩, hvl, hql⟩
  obtain ⟨f, hf⟩ := Deep.choose_lt each
  have hfl : ((List.range len).map f).length = len := by simp
  refine ⟨(List.range len).map f, ⟨⟨?_, hl, hm, .inr ⟨p, rfl, fun j v e => ?_⟩⟩, fun r hr => ?_⟩, fun r hr => ?_, by omega⟩
  · rw [flat_len encO_len, hfl]
  · have hj : j < len * 7 := by
      have := (List.getElem?_eq_some_iff.1 e).1
      rw [flat_len encO_len, hfl] at this
      exact this
    have e1 : j = j / 7 * 7 + j % 7 := by omega
    have hd : j / 7 < len := by omega
    rw [whole_cell]
    rw [e1, flat_get encO_len _ _ _ (Nat.mod_lt _ (by decide))] at e
    rw [List.getElem?_map, List.getElem?_range hd] at e
    simp only [Option.map_some, Option.bind_some] at e
    obtain ⟨g0, _⟩ := hf (j / 7) hd
    rw [e1, ← Addr.add_add', g0 _ (Nat.mod_lt _ (by decide)), e]
  · obtain ⟨i, hi, rfl⟩ := List.mem_map.1 hr
    exact (hf i (by simpa using hi)).2.1
  · obtain ⟨i, hi, rfl⟩ := List.mem_map.1 hr
    exact (hf i (by simpa using hi)).2.2

end

end Go.Proofs.YtncgdoeobblnkaaGreat

/- VcLawT2 -/
namespace Go.Proofs.YtncgdoeobblnkaaGreat

theorem build_op (a b c d e : Int) (s t : Sl) : buildOf Tryz.prog 39 1 #[(0, .agg #[.int .i64 a, .int .i64 b, .int .i64 c, .int .i64 d, .int .i64 e, .slice s.a s.n s.c, .slice t.a t.n t.c])] =
    some (45, [.int .i64 a, .int .i64 b, .int .i64 c, .int .i64 d, .int .i64 e, .slice s.a s.n s.c, .slice t.a t.n t.c]) := by kernel_rfl

theorem law.VptreeNil {kind id k bud rid : Int} {rv qs : Sl} {v q : List Int} {u : H} {K : Bool → H → Prop} (hTab : TabU u) (hv : Ints u rv v) (hq : Ints u qs q) (hv1 : v.length ≤ 17592186044416) (hq1 : q.length ≤ 17592186044416) (h : ∀ u', u.le u' → K true u') :
    C.theodolitelaw08_VptreeNil kind id k bud rid rv qs u K := by
  apply vc.theodolitelaw08_VptreeNil
  refine sem_build (build_op _ _ _ _ _ _ _) fun g hg => ?_
  have l1 := H.le_ins (u := u) (b := g) (.cells [Value.int .i64 kind, .int .i64 id, .int .i64 k, .int .i64 bud, .int .i64 rid, .slice rv.a rv.n rv.c, .slice qs.a qs.n qs.c].toArray 45 (0, 0)) hg
  have hO : Ops (u.ins g (.cells [Value.int .i64 kind, .int .i64 id, .int .i64 k, .int .i64 bud, .int .i64 rid, .slice rv.a rv.n rv.c, .slice qs.a qs.n qs.c].toArray 45 (0, 0))) ⟨some ⟨g, 0, none⟩, 1, 1⟩ [⟨kind, id, k, bud, rid, rv, v, qs, q⟩] := by
    have m := OwnF.make (k := 7) (H.le.refl u) hg (cells := [Value.int .i64 kind, .int .i64 id, .int .i64 k, .int .i64 bud, .int .i64 rid, .slice rv.a rv.n rv.c, .slice qs.a qs.n qs.c].toArray) (e := 45) (n := 1) (by omega) rfl
    refine ⟨m.own.seg, fun o ho => ?_⟩
    simp at ho
    subst ho
    exact ⟨hv.mono l1, hq.mono l1⟩
  refine spec.theodolitelaw08_big (l := []) ⟨Rws.nil _, hO, fun r hr => (by cases hr), by show 0 ≤ 17592186044416; omega, fun o ho => ?_, by show 1 ≤ 17592186044416; omega⟩ ⟨fun _ => h _ l1, fun e => (by cases e)⟩ fun _ _ _ _ => ⟨fun e => (by cases e), fun _ => ?_⟩
  · simp at ho
    subst ho
    exact ⟨hv1, hq1⟩
  refine spec.ix_NilPut fun u2 l2 => spec.ix_NilDelete fun u3 l3 => spec.ix_NilSearch fun u4 l4 => ?_
  have hall := ((l1.trans l2).trans l3).trans l4
  refine spec.theodolitelaw08_awake (hTab.mono hall) fun u16 l16 => ⟨fun _ => ⟨fun _ => ⟨fun _ => ⟨fun _ => ⟨fun _ => ⟨fun _ => ?_, fun hne => absurd rfl hne⟩, fun hne => absurd rfl hne⟩, fun e => (by cases e)⟩, fun hne => absurd rfl hne⟩, fun e => (by cases e)⟩, fun e => (by cases e)⟩
  refine spec.theodolitekeep_Answer (AnsR.nil u16) (AnsR.nil u16) rfl ⟨fun _ => ?_, fun e => (by cases e)⟩
  refine spec.ix_NilLen ⟨fun _ => ?_, fun hne => absurd rfl hne⟩
  refine spec.ix_NilRows ?_
  have hd : decide (((⟨none, 0, 0⟩ : Sl).n : Int) = 0) = true := by decide
  exact (show ∀ bb : Bool, bb = true → K bb u16 from fun bb hb => by rw [hb]; exact h u16 (hall.trans l16)) _ hd

end Go.Proofs.YtncgdoeobblnkaaGreat

/- VcLawT3 -/
namespace Go.Proofs.YtncgdoeobblnkaaGreat

/-- A table that lies apart from blocks D. -/
structure TabSt (ub u : H) (D : Nat → Prop) (n : Nat) (d : Int) (L : List Rw) : Prop where
  ex : ∃ uT, uT.le u ∧ (∀ c, D c → uT c = none) ∧ TabAt uT n d L ∧ ub.le uT ∧ ub n = none

theorem TabSt.le {ub u : H} {D : Nat → Prop} {n : Nat} {d : Int} {L : List Rw} (h : TabSt ub u D n d L) : ub.le u := by
  obtain ⟨uT, h1, _, _, h4, _⟩ := h.ex
  exact h4.trans h1

theorem TabSt.mono {ub u u' : H} {D : Nat → Prop} {n : Nat} {d : Int} {L : List Rw} (h : TabSt ub u D n d L) (hu : u.le u') : TabSt ub u' D n d L := by
  obtain ⟨uT, h1, h2, h3, h4, h5⟩ := h.ex
  exact ⟨uT, h1.trans hu, h2, h3, h4, h5⟩

theorem TabSt.rows {ub u : H} {D : Nat → Prop} {n : Nat} {d : Int} {L : List Rw} (h : TabSt ub u D n d L) : ∃ s : Sl, u n = some (.cells #[.int .i64 d, .slice s.a s.n s.c] 79 (0, 0)) ∧ Rws u s L := by
  obtain ⟨uT, h1, _, h3, _, _⟩ := h.ex
  obtain ⟨s, v, hn, hv, _, hR⟩ := h3.ex
  exact ⟨s, h1 _ _ hn, hR.mono (hv.trans h1)⟩

theorem TabSt.rise {ub u : H} {D : Nat → Prop} {n : Nat} {d : Int} {L : List Rw} (h : TabSt ub u D n d L) : (L.map Rw.pr).Pairwise fun a b => a.1 < b.1 := by
  obtain ⟨uT, _, _, h3, _, _⟩ := h.ex
  exact h3.rise

theorem TabSt.nodup {ub u : H} {D : Nat → Prop} {n : Nat} {d : Int} {L : List Rw} (h : TabSt ub u D n d L) : (L.map (·.id)).Nodup := by
  obtain ⟨uT, _, _, h3, _, _⟩ := h.ex
  rw [List.nodup_iff_pairwise_ne, List.pairwise_map]
  exact h3.srt.imp fun h => Int.ne_of_lt h

/-- The tree turned: the table lies apart from it still. -/
theorem TabSt.turn {ub u u' : H} {D D' : Nat → Prop} {n : Nat} {d : Int} {L : List Rw} (h : TabSt ub u D n d L) (k : IxTurn u D u' D') : TabSt ub u' D' n d L := by
  obtain ⟨uT, h1, h2, h3, h4, h5⟩ := h.ex
  obtain ⟨k1, k2⟩ := k.apart h1 h2
  exact ⟨uT, k1, k2, h3, h4, h5⟩

theorem spec.tabPut {ub u : H} {D : Nat → Prop} {n : Nat} {d id : Int} {L : List Rw} {t : Sl} {q : List Int} {K : Bool → Int → H → Prop} (h : TabSt ub u D n d L) (hDu : ∀ c, D c → u c ≠ none) (hl : L.length ≤ 1000000) (ht : Ints ub t q)
    (hbad : mayErr id q d (decide (id ∈ L.map (·.id))) L.length ≠ 0 → ∀ u', TabSt ub u' D n d L → (∀ c o, u c = some o → D c → u' c = some o) → K false (mayErr id q d (decide (id ∈ L.map (·.id))) L.length) u')
    (hok : mayErr id q d (decide (id ∈ L.map (·.id))) L.length = 0 → ∀ u' L', TabSt ub u' D n d L' → (∀ c o, u c = some o → D c → u' c = some o) → L'.map Rw.pr = tputP (L.map Rw.pr) id q → K (decide (id ∉ L.map (·.id))) 0 u') : C.theodoliteref05_Table__Put (some ⟨n, 0, none⟩) id t u K := by
  obtain ⟨uT, h1, h2, h3, h4, h5⟩ := h.ex
  let K0 : Bool → Int → H → Prop := fun b e v' => ∃ L', TabAt v' n d L' ∧ ub.le v' ∧ ((b = false ∧ e = mayErr id q d (decide (id ∈ L.map (·.id))) L.length ∧ mayErr id q d (decide (id ∈ L.map (·.id))) L.length ≠ 0 ∧ L' = L) ∨
    (b = decide (id ∉ L.map (·.id)) ∧ e = 0 ∧ mayErr id q d (decide (id ∈ L.map (·.id))) L.length = 0 ∧ L'.map Rw.pr = tputP (L.map Rw.pr) id q))
  have hc : C.theodoliteref05_Table__Put (some ⟨n, 0, none⟩) id t uT K0 := spec.theodoliteref05_Table__Put h3 hl (ht.mono h4) (fun hne => ⟨L, h3, h4, .inl ⟨rfl, rfl, hne, rfl⟩⟩)
    fun he u' L' hT' hp hk => ⟨L', hT', fun c o hc => hk c o (h4 c o hc) (fun e => by rw [e, h5] at hc; cases hc), .inr ⟨rfl, rfl, he, hp⟩⟩
  refine hc.frame h1 ?_
  rintro b e v0' v' hf ⟨L', hT', hub', hcase⟩
  have hst : TabSt ub v' D n d L' := ⟨v0', hf.le, fun c hc => by
    cases hx : u c with
    | none => exact absurd hx (hDu c hc)
    | some o => exact (hf.out c o (h2 c hc) hx).1, hT', hub', h5⟩
  have hkeep : ∀ c o, u c = some o → D c → v' c = some o := fun c o hc hd => (hf.out c o (h2 c hd) hc).2
  rcases hcase with ⟨rfl, rfl, hne, rfl⟩ | ⟨rfl, rfl, he, hp⟩
  · exact hbad hne v' hst hkeep
  · exact hok he v' L' hst hkeep hp

theorem spec.tabDelete {ub u : H} {D : Nat → Prop} {n : Nat} {d id : Int} {L : List Rw} {K : Bool → H → Prop} (h : TabSt ub u D n d L) (hDu : ∀ c, D c → u c ≠ none) (hl : L.length ≤ 1000000)
    (hno : (∀ r ∈ L, r.id ≠ id) → ∀ u', TabSt ub u' D n d L → (∀ c o, u c = some o → D c → u' c = some o) → K false u')
    (hyes : (∃ r ∈ L, r.id = id) → ∀ u' L', TabSt ub u' D n d L' → (∀ c o, u c = some o → D c → u' c = some o) → L'.map Rw.pr = tdelP (L.map Rw.pr) id → K true u') : C.theodoliteref05_Table__Delete (some ⟨n, 0, none⟩) id u K := by
  obtain ⟨uT, h1, h2, h3, h4, h5⟩ := h.ex
  let K0 : Bool → H → Prop := fun b v' => ∃ L', TabAt v' n d L' ∧ ub.le v' ∧ ((b = false ∧ (∀ r ∈ L, r.id ≠ id) ∧ L' = L) ∨ (b = true ∧ (∃ r ∈ L, r.id = id) ∧ L'.map Rw.pr = tdelP (L.map Rw.pr) id))
  have hc : C.theodoliteref05_Table__Delete (some ⟨n, 0, none⟩) id uT K0 := spec.theodoliteref05_Table__Delete h3 hl (fun hno => ⟨L, h3, h4, .inl ⟨rfl, hno, rfl⟩⟩)
    fun he u' L' hT' hp hk => ⟨L', hT', fun c o hc => hk c o (h4 c o hc) (fun e => by rw [e, h5] at hc; cases hc), .inr ⟨rfl, he, hp⟩⟩
  refine hc.frame h1 ?_
  rintro b v0' v' hf ⟨L', hT', hub', hcase⟩
  have hst : TabSt ub v' D n d L' := ⟨v0', hf.le, fun c hc => by
    cases hx : u c with
    | none => exact absurd hx (hDu c hc)
    | some o => exact (hf.out c o (h2 c hc) hx).1, hT', hub', h5⟩
  have hkeep : ∀ c o, u c = some o → D c → v' c = some o := fun c o hc hd => (hf.out c o (h2 c hd) hc).2
  rcases hcase with ⟨rfl, hne, rfl⟩ | ⟨rfl, he, hp⟩
  · exact hno hne v' hst hkeep
  · exact hyes he v' L' hst hkeep hp

theorem spec.tabOf {ub u : H} {D : Nat → Prop} {s : Sl} {l : List Rw} {d : Int} {K : Option Addr → H → Prop} (hle : ub.le u) (hDb : ∀ c, D c → ub c = none) (hDu : ∀ c, D c → u c ≠ none) (hs : Rws ub s l) (hl : Rok l d)
    (hK : ∀ n u' L, TabSt ub u' D n d L → (∀ c o, u c = some o → D c → u' c = some o) → (L.map Rw.pr).Perm (l.map Rw.pr) → K (some ⟨n, 0, none⟩) u') : C.theodoliteref05_Of s d u K := by
  let K0 : Option Addr → H → Prop := fun p v' => ∃ n L, p = some ⟨n, 0, none⟩ ∧ ub n = none ∧ ub.le v' ∧ TabAt v' n d L ∧ (L.map Rw.pr).Perm (l.map Rw.pr)
  have hc : C.theodoliteref05_Of s d ub K0 := spec.theodoliteref05_Of hs hl fun n u' L h1 h2 h3 h4 => ⟨n, L, rfl, h1, h2, h3, h4⟩
  refine hc.frame hle ?_
  rintro p v0' v' hf ⟨n, L, rfl, h1, h2, h3, h4⟩
  refine hK n v' L ⟨v0', hf.le, fun c hc => ?_, h3, h2, h1⟩ (fun c o hc hd => (hf.out c o (hDb c hd) hc).2) h4
  cases hx : u c with
  | none => exact absurd hx (hDu c hc)
  | some o => exact (hf.out c o (hDb c hc) hx).1

/-- A tree and a table of the same rows. -/
structure TSt (ub u : H) (D : Nat → Prop) (b : Nat) (X : Tr) (n : Nat) (L : List Rw) : Prop where
  ix : Ix ub u D b X
  tab : TabSt ub u D n X.dim L
  perm : (ixRows X).Perm (L.map Rw.pr)
  ok : Rok L X.dim

theorem TSt.mono {ub u u' : H} {D : Nat → Prop} {b : Nat} {X : Tr} {n : Nat} {L : List Rw} (h : TSt ub u D b X n L) (hu : u.le u') : TSt ub u' D b X n L := ⟨h.ix.mono hu, h.tab.mono hu, h.perm, h.ok⟩
theorem TSt.le {ub u : H} {D : Nat → Prop} {b : Nat} {X : Tr} {n : Nat} {L : List Rw} (h : TSt ub u D b X n L) : ub.le u := h.tab.le

theorem TSt.ids {ub u : H} {D : Nat → Prop} {b : Nat} {X : Tr} {n : Nat} {L : List Rw} (h : TSt ub u D b X n L) (id : Int) : id ∈ (ixRows X).map (·.1) ↔ id ∈ L.map (·.id) := by
  rw [ids_pr]
  exact (h.perm.map _).mem_iff

theorem TSt.len {ub u : H} {D : Nat → Prop} {b : Nat} {X : Tr} {n : Nat} {L : List Rw} (h : TSt ub u D b X n L) : (ixRows X).length = L.length := by
  have := h.perm.length_eq
  simpa using this

theorem spec.theodolitelaw08_looks {ub u : H} {D : Nat → Prop} {b : Nat} {X : Tr} {n : Nat} {L : List Rw} {K : Bool → H → Prop} (h : TSt ub u D b X n L) (hK : ∀ u', u.le u' → K true u') :
    C.theodolitelaw08_looks (some ⟨b, 0, none⟩) (some ⟨n, 0, none⟩) u K := by
  apply vc.theodolitelaw08_looks
  refine spec.ix_Rows h.ix fun s ls u1 hR hp hs => ?_
  intro K2 hK2
  have hu1 : u.le u1 := hR.own.le
  obtain ⟨ts, hn, hRw⟩ := (h.mono hu1).tab.rows
  have hlen := hRw.len
  have c1 : H.cell? u1 ((⟨n, 0, none⟩ : Addr).add 1) = some (.slice ts.a ts.n ts.c) := H.cell?_of hn 1
  refine ⟨_, rfl, ts, c1, ?_⟩
  refine spec.theodolitekeep_Rows hR.rws hRw ?_
  have hpr : (ls.map Rw.pr).Perm (L.map Rw.pr) := hp.trans h.perm
  have hrise : (ls.map Rw.pr).Pairwise fun a b => a.1 < b.1 := by
    rw [List.pairwise_map]
    have hnd : (ls.map (·.id)).Nodup := by
      rw [ids_pr]
      exact ((hpr.map (·.1)).nodup_iff).2 (by rw [← ids_pr]; exact h.tab.nodup)
    rw [List.nodup_iff_pairwise_ne, List.pairwise_map] at hnd
    refine (hs.and hnd).imp fun {x y} hxy => ?_
    have := hxy.1
    have := hxy.2
    show x.id < y.id
    omega
  have e : ls.map Rw.pr = L.map Rw.pr := pr_rise_eq hrise h.tab.rise hpr
  have fin : ∀ bb : Bool, bb = true → K2 bb u1 := fun bb hb => hK2 bb u1 (spec.theodolitekeep_SpoilRows hR fun u' hle _ => by rw [hb]; exact hK u' hle)
  have len : ∀ {A : Int → H → Prop}, A (L.length : Int) u1 → C.vptree_Tree__Len (some ⟨b, 0, none⟩) u1 A := fun hA => spec.ix_Len (h.ix.mono hu1) (by rw [h.len]; exact hA)
  refine ⟨fun _ => ⟨_, rfl, len ⟨ts, c1, fin _ (decide_eq_true (by omega))⟩, ts, c1, len (fin _ (decide_eq_true (by omega)))⟩, fun hb => ?_⟩
  rw [decide_eq_true e] at hb
  cases hb

theorem OwnF.again {u1 u2 v u3 : H} {e k : Nat} {s : Sl} {xs : List Value} (h : OwnF u1 u2 e k s xs) (hv : v.le u1) (h3 : v.le u3) (hk : ∀ b o, u1 b = none → u2 b = some o → u3 b = some o) : OwnF v u3 e k s xs :=
  ⟨h.own.le fun b o hb hu => hk b o (h.fresh b hb) hu, h3, fun g hg => by
    cases hx : v g with
    | none => rfl
    | some o => have := hv _ _ hx; rw [h.fresh g hg] at this; cases this⟩

theorem AnsO.again {u1 u2 v u3 : H} {sh ss sr : Sl} {hits : List Hit} {seen : List Int} {rest : List Rgn} (h : AnsO u1 u2 sh ss sr hits seen rest) (hv : v.le u1) (h3 : v.le u3) (hk : ∀ b o, u1 b = none → u2 b = some o → u3 b = some o) : AnsO v u3 sh ss sr hits seen rest :=
  ⟨h.h.again hv h3 hk, h.s.again hv h3 hk, h.r.again hv h3 hk, fun r hr => ⟨(h.g r hr).l.again hv h3 hk, (h.g r hr).h.again hv h3 hk, (h.g r hr).i.again hv h3 hk⟩, h.far⟩

theorem spec.theodolitelaw08_searches {ub u : H} {D : Nat → Prop} {b : Nat} {X : Tr} {n : Nat} {L : List Rw} {kind id k bud rid : Int} {rv qs : Sl} {q : List Int} {K : Bool → H → Prop} (h : TSt ub u D b X n L) (hgas : ixGas X ≤ 2700) (hq : Ints ub qs q) (hb : q.length ≤ 1000000)
    (hK : ∀ u', u.le u' → K true u') : C.theodolitelaw08_searches (some ⟨b, 0, none⟩) (some ⟨n, 0, none⟩) kind id k bud rid rv qs u K := by
  apply vc.theodolitelaw08_searches
  refine spec.theodolitekeep_Lend (hq.mono h.le) hb fun g hg => ?_
  have l1 : u.le (u.ins g (lentObj q)) := H.le_ins _ hg
  have h1 := h.mono l1
  refine spec.ix_Search h1.ix hgas (lent_ints (H.ins_same _ _ _) hb) (fun hne u2 l2 => ?_) (fun he sh ss sr rest u2 ha hr => ?_)
  · intro K7 hK7
    refine spec.theodolitekeep_Back (l2 _ _ (H.ins_same _ _ _)) (hq.mono ((h1.le).trans l2)) hb fun o => ⟨fun hx => absurd rfl hx, fun _ => ?_⟩
    have l3 : u.le (u2.ins g o) := fun c x hc => by
      rw [H.ins_other _ _ (fun e => by rw [e, hg] at hc; cases hc)]
      exact (l1.trans l2) c x hc
    obtain ⟨ts, hn, _⟩ := (h.mono l3).tab.rows
    have c0 : H.cell? (u2.ins g o) ⟨n, 0, none⟩ = some (.int .i64 X.dim) := H.cell?_of hn 0
    have k7 : K7 false (u2.ins g o) := hK7 false _ ⟨fun _ => spec.theodolitekeep_Answer (AnsR.nil _) (AnsR.nil _) rfl (hK _ l3), fun e0 => absurd e0 hne⟩
    have leaf : C.theodoliteref05_Searched qs X.dim k bud (u2.ins g o) (fun (x : Int) (v : H) => ((¬ (askErr q X.dim k bud = x)) → K false v) ∧ ((askErr q X.dim k bud = x) → K7 false v)) :=
      spec.theodoliteref05_Searched (hq.mono (h.le.trans l3)) ⟨fun hx => absurd rfl hx, fun _ => k7⟩
    refine ⟨_, rfl, ?_⟩
    repeat' (first | exact leaf | refine ⟨_, c0, ?_⟩ | apply And.intro)
  · intro K7 hK7
    refine spec.theodolitekeep_Back (ha.le _ _ (H.ins_same _ _ _)) (hq.mono ((h1.le).trans ha.le)) hb fun o => ⟨fun hx => absurd rfl hx, fun _ => ?_⟩
    have l3 : u.le (u2.ins g o) := fun c x hc => by
      rw [H.ins_other _ _ (fun e => by rw [e, hg] at hc; cases hc)]
      exact (l1.trans ha.le) c x hc
    have h3 := h.mono l3
    have hub3 := h3.le
    obtain ⟨ts, hn, hR⟩ := h3.tab.rows
    have c0 : H.cell? (u2.ins g o) ⟨n, 0, none⟩ = some (.int .i64 X.dim) := H.cell?_of hn 0
    have ha3 : AnsO u (u2.ins g o) sh ss sr (ixH X q k bud) (ixS X q k bud) rest := ha.again l1 l3 fun c x h1 h2 => by
      rw [H.ins_other _ _ (fun e => by rw [e, H.ins_same] at h1; cases h1)]
      exact h2
    obtain ⟨hv, k1, k2, b1, b2⟩ := askErr_ok.1 he
    obtain ⟨_, _, hql, hvq⟩ := vcheck_ok hv
    have hqok : Qok L q := ⟨hvq, by rw [hql]; exact h.ok⟩
    have obeys : ∀ {v : H} {K' : Bool → H → Prop} {sh ss sr : Sl} {rest : List Rgn}, (u2.ins g o).le v → AnsR v sh ss sr (ixH X q k bud) (ixS X q k bud) rest → rest.map Rgn.core = ixR X q k bud → K' true v → C.theodoliteref05_Obeys ts qs k bud sh ss sr v K' := fun {v K' sh ss sr rest} hle hr hcore hK' => by
      obtain ⟨s1, s2, s3⟩ := ix_sound3 h.ix he h.perm.symm hqok hcore
      exact spec.obeysC (hR.mono hle) (hq.mono (hub3.trans hle)) hqok k1 hr s1 (s1.dok hqok) s2 s3 hK'
    have k7 : K7 false (u2.ins g o) := by
      refine hK7 false _ ⟨fun hx => absurd rfl hx, fun _ => ⟨_, rfl, ts, H.cell?_of hn 1, obeys (H.le.refl _) ha3.read hr ⟨fun hx => absurd rfl hx, fun _ => ?_⟩⟩⟩
      refine spec.ix_Search h3.ix hgas (hq.mono hub3) (fun hne => absurd he hne) fun _ sh' ss' sr' rest' u5 hb' hr' => ?_
      refine spec.theodolitekeep_Answer (ha3.mono hb'.le).read hb'.read (hr.trans hr'.symm) ?_
      refine spec.theodolitekeep_Spoil (ha3.mono hb'.le) (ix_sound3 h.ix he h.perm.symm hqok hr).1.co fun u6 l6 hk6 => ⟨fun _ => ?_, fun e => (by cases e)⟩
      have hb6 := hb'.else (u' := u6) fun x o' e1 e2 => hk6 x o' e2 fun s hs hg' => ha3.known s hs x hg' e1
      have h6 := h.mono l6
      obtain ⟨ts', hn', hR'⟩ := h6.tab.rows
      obtain ⟨s1, s2, s3⟩ := ix_sound3 h.ix he h.perm.symm hqok hr'
      exact ⟨_, rfl, ts', H.cell?_of hn' 1, spec.obeysC hR' (hq.mono h6.le) hqok k1 hb6 s1 (s1.dok hqok) s2 s3 (hK _ l6)⟩
    have leaf : C.theodoliteref05_Searched qs X.dim k bud (u2.ins g o) (fun (x : Int) (v : H) => ((¬ ((0 : Int) = x)) → K false v) ∧ (((0 : Int) = x) → K7 false v)) := by
      refine spec.theodoliteref05_Searched (hq.mono hub3) ?_
      rw [show (if vcheck q X.dim ≠ 0 then vcheck q X.dim else if k < 1 ∨ 64 < k ∨ bud < 0 ∨ 1000000 < bud then 1 else 0) = 0 from he]
      exact ⟨fun hx => absurd rfl hx, fun _ => k7⟩
    refine ⟨_, rfl, ?_⟩
    repeat' (first | exact leaf | refine ⟨_, c0, ?_⟩ | apply And.intro)

end Go.Proofs.YtncgdoeobblnkaaGreat

/- VcLawT4 -/
namespace Go.Proofs.YtncgdoeobblnkaaGreat

theorem rok_all {L : List Rw} {d : Int} (h : Rok L d) : ∀ p ∈ L.map Rw.pr, 1 ≤ p.1 ∧ p.1 ≤ 1000000000 ∧ (p.2.length : Int) = d ∧ vok p.2 := by
  intro p hp
  obtain ⟨r, hr, rfl⟩ := List.mem_map.1 hp
  exact ⟨(h.id r hr).1, (h.id r hr).2, h.v r hr⟩

theorem tputP_all (P : List Pr) (id : Int) (v : List Int) : (tputP P id v).Perm ((id, v) :: P.filter fun p => p.1 != id) := by
  unfold tputP
  refine List.perm_middle.trans (List.Perm.cons _ ?_)
  have e1 : P.filter (fun p => decide (p.1 < id)) = (P.filter fun p => p.1 != id).filter fun p => decide (p.1 < id) := by
    rw [List.filter_filter]
    refine List.filter_congr fun p _ => ?_
    by_cases h : p.1 < id
    · have : p.1 ≠ id := by omega
      simp [h, this]
    · simp [h]
  have e2 : P.filter (fun p => decide (id < p.1)) = (P.filter fun p => p.1 != id).filter fun p => !decide (p.1 < id) := by
    rw [List.filter_filter]
    refine List.filter_congr fun p _ => ?_
    by_cases h : id < p.1
    · have h1 : p.1 ≠ id := by omega
      have h2 : ¬ p.1 < id := by omega
      simp [h, h1, h2]
    · by_cases h2 : p.1 < id
      · simp [h, h2]
      · have : p.1 = id := by omega
        simp [this]
  rw [e1, e2]
  exact List.filter_append_perm _ _

theorem mayErr_ok {id : Int} {v : List Int} {d : Int} {there : Bool} {many : Int} (h : mayErr id v d there many = 0) : 1 ≤ id ∧ id ≤ 1000000000 ∧ vcheck v d = 0 ∧ (there = false → many < 512) := by
  unfold mayErr at h
  split at h
  · omega
  · split at h
    · rename_i h1 h2; exact absurd h h2
    · split at h
      · omega
      · rename_i h1 h2 h3
        refine ⟨by omega, by omega, by omega, fun ht => ?_⟩
        by_cases hm : many < 512
        · exact hm
        · exact absurd ⟨ht, by omega⟩ h3

theorem filter_ne_lt {P : List Pr} {id : Int} (h : id ∈ P.map (·.1)) : (P.filter fun p => p.1 != id).length < P.length := by
  obtain ⟨p, hp1, hp2⟩ := List.mem_map.1 h
  exact List.length_filter_lt_length_iff_exists.2 ⟨p, hp1, by simp [hp2]⟩

theorem rok_put {L L' : List Rw} {d id : Int} {q : List Int} (h : Rok L d) (hp : L'.map Rw.pr = tputP (L.map Rw.pr) id q) (hnd : (L'.map (·.id)).Nodup) (he : mayErr id q d (decide (id ∈ L.map (·.id))) L.length = 0) : Rok L' d := by
  obtain ⟨h1, h2, h3, h4⟩ := mayErr_ok he
  obtain ⟨_, _, h5, h6⟩ := vcheck_ok h3
  have hperm := tputP_all (L.map Rw.pr) id q
  rw [← hp] at hperm
  have hlen : L'.length ≤ 512 := by
    have e := hperm.length_eq
    simp only [List.length_map, List.length_cons] at e
    by_cases hm : id ∈ L.map (·.id)
    · rw [ids_pr] at hm
      have := filter_ne_lt hm
      have hl := h.len
      rw [List.length_map] at this
      omega
    · have := h4 (by simp only [decide_eq_false_iff_not]; exact hm)
      have h7 := List.length_filter_le (fun p : Pr => p.1 != id) (L.map Rw.pr)
      rw [List.length_map] at h7
      omega
  refine rok_pr h.dim hlen hnd fun p hp => ?_
  rcases List.mem_cons.1 (hperm.mem_iff.1 hp) with rfl | hp
  · exact ⟨h1, h2, h5, h6⟩
  · exact rok_all h p (List.mem_filter.1 hp).1

theorem rok_del {L L' : List Rw} {d id : Int} (h : Rok L d) (hp : L'.map Rw.pr = tdelP (L.map Rw.pr) id) (hnd : (L'.map (·.id)).Nodup) : Rok L' d := by
  have hlen : L'.length ≤ 512 := by
    have e := congrArg List.length hp
    have h7 := List.length_filter_le (fun p : Pr => p.1 != id) (L.map Rw.pr)
    have hl := h.len
    unfold tdelP at e
    rw [List.length_map] at e h7
    omega
  refine rok_pr h.dim hlen hnd fun p hp' => ?_
  rw [hp] at hp'
  exact rok_all h p (List.mem_filter.1 hp').1

theorem TSt.known {ub u : H} {D : Nat → Prop} {b : Nat} {X : Tr} {n : Nat} {L : List Rw} (h : TSt ub u D b X n L) : ∀ c, D c → u c ≠ none := h.ix.base.2.2

theorem spec.theodolitelaw08_step {ub u : H} {D : Nat → Prop} {b : Nat} {X : Tr} {n : Nat} {L : List Rw} {o : Cll} {K : Bool → H → Prop} (h : TSt ub u D b X n L) (hgas : ixGas X ≤ 2700) (hTab : TabU ub) (hv : Ints ub o.rv o.v) (hq : Ints ub o.qs o.q) (hvb : o.v.length ≤ 1000000) (hqb : o.q.length ≤ 1000000)
    (hK : ∀ u' D' X' L', TSt ub u' D' b X' n L' → X'.dim = X.dim → X'.links = X.links → ixGas X' ≤ ixGas X + 1 → K true u') : C.theodolitelaw08_step (some ⟨b, 0, none⟩) (some ⟨n, 0, none⟩) o.kind o.id o.k o.bud o.rid o.rv o.qs u K := by
  have fin : ∀ {bb : Bool} {u'} {D' X' L'}, bb = true → TSt ub u' D' b X' n L' → X'.dim = X.dim → X'.links = X.links → ixGas X' ≤ ixGas X + 1 → K bb u' := fun hb h1 h2 h3 h4 => by rw [hb]; exact hK _ _ _ _ h1 h2 h3 h4
  have hL : L.length ≤ 1000000 := by have := h.ok.len; omega
  apply vc.theodolitelaw08_step
  refine ⟨fun _ => ?_, fun _ => ⟨fun _ => ?_, fun _ => ⟨fun _ => spec.theodolitelaw08_searches h hgas hq hqb fun u' hu' => hK _ _ _ _ (h.mono hu') rfl rfl (Nat.le_succ _), fun _ => spec.theodolitelaw08_looks h fun u' hu' => hK _ _ _ _ (h.mono hu') rfl rfl (Nat.le_succ _)⟩⟩⟩
  · refine spec.theodolitekeep_Lend (hv.mono h.le) hvb fun g hg => ?_
    have l1 : u.le (u.ins g (lentObj o.v)) := H.le_ins _ hg
    have h1 := h.mono l1
    have hgD : ¬ D g := fun hd => h.known g hd hg
    have hub : ub g = none := by
      cases hx : ub g with
      | none => rfl
      | some x => have := h.le _ _ hx; rw [hg] at this; cases this
    have edec : decide (o.rid ∈ (ixRows X).map (·.1)) = decide (o.rid ∈ L.map (·.id)) := decide_eq_decide.2 (h.ids o.rid)
    have edec' : decide (o.rid ∉ (ixRows X).map (·.1)) = decide (o.rid ∉ L.map (·.id)) := decide_eq_decide.2 (not_congr (h.ids o.rid))
    have eerr : mayErr o.rid o.v X.dim (decide (o.rid ∈ (ixRows X).map (·.1))) (ixRows X).length = mayErr o.rid o.v X.dim (decide (o.rid ∈ L.map (·.id))) L.length := by rw [edec, h.len]
    refine spec.ix_Put h1.ix hgas hTab (lent_ints (H.ins_same _ _ _) hvb) (fun g' hg' hd => by
      have : g' = g := by simp [Sl.blk] at hg'; exact hg'.symm
      exact hgD (this ▸ hd)) (fun hne => ?_) (fun he u2 D2 X2 hX2 ht hp hdim hlinks hg2 => ?_)
    · rw [eerr] at hne ⊢
      refine spec.theodolitekeep_Back (H.ins_same _ _ _) (hv.mono h1.le) hvb fun x => ?_
      have l3 : u.le ((u.ins g (lentObj o.v)).ins g x) := fun c y hc => by
        rw [H.ins_other _ _ (fun e => by rw [e, hg] at hc; cases hc)]
        exact l1 c y hc
      have h3 := h.mono l3
      refine spec.tabPut h3.tab h3.known hL hv (fun _ u' hst hk => ?_) (fun he => absurd he hne)
      exact ⟨fun _ => ⟨fun _ => fin (decide_eq_true rfl) ⟨h3.ix.same hk hst.le, hst, h.perm, h.ok⟩ rfl rfl (Nat.le_succ _), fun hx => absurd rfl hx⟩, fun e => (by cases e)⟩
    · have hgk : u2 g = some (lentObj o.v) := ht.keep _ _ (H.ins_same _ _ _) hgD
      have hgD2 : ¬ D2 g := fun hd => by
        rcases ht.grow g hd with h5 | h5
        · exact hgD h5
        · rw [H.ins_same] at h5; cases h5
      refine spec.theodolitekeep_Back hgk (hv.mono hX2.base.1) hvb fun x => ?_
      have t2 : TabSt ub u2 D2 n X.dim L := h1.tab.turn ht
      have t3 : TabSt ub (u2.ins g x) D2 n X.dim L := by
        obtain ⟨uT, e1, e2, e3, e4, e5⟩ := h.tab.ex
        have k1 := (h1.tab.turn ht)
        obtain ⟨k2, k3⟩ := ht.apart (e1.trans l1) e2
        refine ⟨uT, fun c y hc => ?_, k3, e3, e4, e5⟩
        rw [H.ins_other _ _ (fun e => by have := e1 _ _ hc; rw [e, hg] at this; cases this)]
        exact k2 c y hc
      have i3 : Ix ub (u2.ins g x) D2 b X2 := hX2.same (fun c y hc hd => by rw [H.ins_other _ _ (fun e => hgD2 (by rw [← e]; exact hd))]; exact hc) t3.le
      refine spec.tabPut t3 i3.base.2.2 hL hv (fun hne => absurd (eerr ▸ he) hne) fun he' u' L' hst hk hpL => ?_
      have hrok := rok_put h.ok hpL hst.nodup he'
      have hperm : (ixRows X2).Perm (L'.map Rw.pr) := by
        rw [hpL]
        exact hp.trans ((List.Perm.cons _ (h.perm.filter _)).trans (tputP_all _ _ _).symm)
      rw [edec']
      exact ⟨fun _ => ⟨fun _ => fin (decide_eq_true rfl) ⟨i3.same hk hst.le, hdim ▸ hst, hperm, hdim ▸ hrok⟩ hdim hlinks hg2, fun hx => absurd rfl hx⟩, fun e => (by cases e)⟩
  · refine spec.ix_Delete h.ix hgas (fun hno u2 l2 => ?_) (fun hyes u2 D2 X2 hX2 ht hp hdim hlinks hg2 => ?_)
    · have h2 := h.mono l2
      refine spec.tabDelete h2.tab h2.known hL (fun _ u' hst hk => ?_) (fun hy => ?_)
      · exact ⟨fun _ => fin (decide_eq_true rfl) ⟨h2.ix.same hk hst.le, hst, h.perm, h.ok⟩ rfl rfl (Nat.le_succ _), fun hx => absurd rfl hx⟩
      · obtain ⟨r, hr, he⟩ := hy
        exact absurd ((h.ids o.id).2 (List.mem_map.2 ⟨r, hr, he⟩)) hno
    · refine spec.tabDelete (h.tab.turn ht) hX2.base.2.2 hL (fun hno => ?_) (fun _ u' L' hst hk hpL => ?_)
      · obtain ⟨r, hr, he⟩ := List.mem_map.1 ((h.ids o.id).1 hyes)
        exact absurd he (hno r hr)
      · have hperm : (ixRows X2).Perm (L'.map Rw.pr) := by
          rw [hpL, hp]
          exact h.perm.filter _
        exact ⟨fun _ => fin (decide_eq_true rfl) ⟨hX2.same hk hst.le, hdim ▸ hst, hperm, hdim ▸ rok_del h.ok hpL hst.nodup⟩ hdim hlinks (Nat.le_succ_of_le hg2), fun hx => absurd rfl hx⟩

end Go.Proofs.YtncgdoeobblnkaaGreat

/- VcLawT5 -/
namespace Go.Proofs.YtncgdoeobblnkaaGreat

theorem dec_not {p q : Prop} [Decidable p] [Decidable q] (h : p ↔ ¬ q) : decide p = !decide q := by
  by_cases hq : q <;> simp [h, hq]

theorem rok_perm {L l : List Rw} {d : Int} (h : Rok l d) (hp : (L.map Rw.pr).Perm (l.map Rw.pr)) : Rok L d := by
  have hlen := hp.length_eq
  rw [List.length_map, List.length_map] at hlen
  refine rok_pr h.dim (by have := h.len; omega) ?_ fun p hp' => rok_all h p (hp.mem_iff.1 hp')
  rw [ids_pr, (hp.map (·.1)).nodup_iff, ← ids_pr]
  exact h.nodup

theorem law.VptreeBuild {s : Sl} {l : List Rw} {dim A B seed : Int} {u : H} {K : Bool → H → Prop} (hTab : TabU u) (hs : Rws u s l) (hsm : ∀ r ∈ l, r.v.length ≤ 17592186044416) (hsn : s.n ≤ 17592186044416) (hU : U64 seed) (h : ∀ u', u.le u' → K true u') :
    C.theodolitelaw08_VptreeBuild s dim A B seed u K := by
  apply vc.theodolitelaw08_VptreeBuild
  refine spec.theodolitelaw08_big (ops := []) ⟨hs, Ops.nil u, hsm, hsn, fun o ho => (by cases ho), by show 0 ≤ 17592186044416; omega⟩ ⟨fun _ => h u (H.le.refl u), fun e => (by cases e)⟩ fun hl _ hv _ => ⟨fun e => (by cases e), fun _ => ?_⟩
  refine spec.theodolitelaw08_wrong hs ?_
  refine spec.theodolitekeep_LendRows hs (by omega) (fun r hr => by have := hv r hr; omega) fun g ls u5 l5 hg hg5 hL hpr => ?_
  have hll : ls.length = l.length := by simpa using congrArg List.length hpr
  have hrs : Rws u5 ⟨some ⟨g, 0, none⟩, l.length, l.length + 1⟩ ls := by
    have := hL.rws hg5 (c := l.length + 1) (by omega) (by omega)
    rwa [hll] at this
  have ebe : ixErr ls dim A B = ixErr l dim A B := ixErr_pr hpr
  refine spec.ix_Build hrs (hTab.mono l5) hU (fun hne => ?_) (fun he b D X u8 hX hp hdim hlinks _ => ?_)
  · refine spec.theodolitekeep_BackRows hg5 hg hL l5 hs hpr (by omega) fun u10 l10 _ => ?_
    intro K11 h11
    rw [ebe] at hne
    refine ⟨fun hx => absurd rfl hx, fun _ => ⟨fun hx => absurd ebe hx, fun _ => ⟨fun hx => absurd (dec_not ⟨fun _ => hne, fun _ => rfl⟩) hx, fun _ => ?_⟩⟩⟩
    exact h11 _ _ (spec.theodolitelaw08_awake (hTab.mono l10) fun u15 l15 => ⟨fun _ => ⟨fun _ => h _ (l10.trans l15), fun hx => absurd rfl hx⟩, fun e => (by cases e)⟩)
  · have hb5 := hX.base
    have hg8 := hb5.1 _ _ hg5
    refine spec.theodolitekeep_BackRows hg8 hg (hL.else fun c o _ hc => hb5.1 c o hc) (l5.trans hb5.1) hs hpr (by omega) fun u10 l10 hk => ?_
    intro K11 h11
    rw [ebe] at he
    refine ⟨fun hx => absurd rfl hx, fun _ => ⟨fun hx => absurd he.symm hx, fun _ => ⟨fun hx => absurd (dec_not ⟨fun e => (by cases e), fun e => absurd he e⟩) hx, fun _ => ?_⟩⟩⟩
    refine h11 _ _ (spec.theodolitelaw08_awake (hTab.mono l10) fun u15 l15 => ⟨fun _ => ⟨fun e => (by cases e), fun _ => ?_⟩, fun e => (by cases e)⟩)
    have i10 : Ix u u10 D b X := (hX.rebase l5).same (fun c o hc hd => hk c o hc (fun e => by
      have := hb5.2.1 c hd
      rw [e, hg5] at this; cases this) fun r hr hbk => by
        obtain ⟨x, h1, h2, _, _, _⟩ := hL.inner r hr
        have : x = c := by rw [h1] at hbk; simpa [Sl.blk] using hbk
        have h3 := hb5.2.1 c hd
        rw [← this, h2] at h3; cases h3) l10
    have i15 := i10.mono l15
    have hrok := ixErr_rok he
    refine spec.tabOf (l10.trans l15) i15.base.2.1 i15.base.2.2 hs hrok fun n u17 L hst hk17 hpL => ?_
    refine spec.theodolitelaw08_looks (ub := u) (D := D) (X := X) (L := L) ⟨i15.same hk17 hst.le, hdim.symm ▸ hst, ?_, hdim.symm ▸ rok_perm hrok hpL⟩ fun u19 l19 => h _ (hst.le.trans l19)
    refine hp.trans ?_
    rw [hpr]
    exact hpL.symm

theorem law.VptreeRuns {s t : Sl} {l : List Rw} {ops : List Cll} {dim A B seed : Int} {u : H} {K : Bool → H → Prop} (hTab : TabU u) (hc : Come2 u s t l ops) (hU : U64 seed) (h : ∀ u', u.le u' → K true u') :
    C.theodolitelaw08_VptreeRuns s dim A B seed t u K := by
  apply vc.theodolitelaw08_VptreeRuns
  refine spec.theodolitelaw08_big hc ⟨fun _ => h u (H.le.refl u), fun e => (by cases e)⟩ fun hl hol hv hvo => ⟨fun e => (by cases e), fun _ => ?_⟩
  have htn := hc.tn
  have hon := hc.calls.len
  refine spec.ix_Build hc.rows hTab hU (fun hne => ?_) (fun he b D X u4 hX hp hdim hlinks hg0 => ?_)
  · intro K5 h5
    refine ⟨fun _ => h5 _ _ ⟨fun _ => spec.theodolitelaw08_awake hTab fun u9 l9 => ⟨fun _ => ⟨fun _ => spec.theodolitelaw08_wrong (hc.rows.mono l9) ?_, fun hx => absurd rfl hx⟩, fun e => (by cases e)⟩, fun e => (by cases e)⟩, fun e0 => absurd e0 hne⟩
    exact (show ∀ bb : Bool, bb = true → K bb u9 from fun bb hb => by rw [hb]; exact h _ l9) _ (decide_eq_true rfl)
  · intro K5 h5
    refine ⟨fun hx => absurd rfl hx, fun _ => h5 _ _ ⟨fun ht => (by have := of_decide_eq_true ht; cases this), fun _ => ?_⟩⟩
    have hb4 := hX.base
    have hrok := ixErr_rok he
    refine spec.tabOf hb4.1 hb4.2.1 hb4.2.2 hc.rows hrok fun n u13 L hst hk hpL => ?_
    have st0 : TSt u u13 D b X n L := ⟨hX.same hk hst.le, hdim.symm ▸ hst, hp.trans hpL.symm, hdim.symm ▸ rok_perm hrok hpL⟩
    refine ⟨fun _ x v => 0 ≤ x ∧ ∃ D X L, TSt u v D b X n L ∧ (ixGas X : Int) ≤ x, fun _ x _ => ((t.n : Int) - x).toNat, ⟨by omega, D, X, L, st0, by omega⟩, fun b16 x v hI => ⟨fun hx => ?_, fun hx => ?_⟩⟩
    · obtain ⟨h0, D, X, L, hst, hgx⟩ := hI
      obtain ⟨p, hp, o, _, hmem, c0, c1, c2, c3, c4, c5, c6, _, _⟩ := (hc.calls.mono hst.le).at h0 hx
      refine ⟨p, hp, ⟨h0, hx⟩, _, c0, _, c1, _, c2, _, c3, _, c4, _, c5, _, c6, ?_⟩
      obtain ⟨hov, hoq⟩ := hc.calls.2 o hmem
      have hb := hvo o hmem
      refine spec.theodolitelaw08_step hst (by omega) hTab hov hoq (by omega) (by omega) fun u' D' X' L' h' _ _ hg' => ⟨fun hx => absurd rfl hx, fun _ => ⟨⟨by omega, by omega⟩, ⟨by omega, D', X', L', h', by omega⟩, by dsimp only; omega⟩⟩
    · obtain ⟨h0, D, X, L, hst, _⟩ := hI
      exact spec.theodolitelaw08_awake (hTab.mono hst.le) fun u30 l30 => ⟨fun _ => spec.theodolitelaw08_looks (hst.mono l30) fun u32 l32 => h _ ((hst.le.trans l30).trans l32), fun e => (by cases e)⟩

end Go.Proofs.YtncgdoeobblnkaaGreat
