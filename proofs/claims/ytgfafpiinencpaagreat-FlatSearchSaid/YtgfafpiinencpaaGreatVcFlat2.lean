/- flat.Range; the document's Range. -/
import Derived.Test.YtgfafpiinencpaaGreatVcFlat
set_option maxRecDepth 100000
namespace Go.Proofs.YtgfafpiinencpaaGreat

/-- All within a radius, in their order. -/
def within (R : Int) (l : List Hit) : List Hit := sortH (l.filter fun h => decide (h.2 ≤ R))

noncomputable abbrev rangeC : Code := rgCode (Tryz.f33.body.getD Go.Code.skip)

theorem rangeC_eq : rangeC = .rangeFunc (.tmp 19) #[20] (rgA rangeC) (rgB rangeC) := by kernel_rfl

theorem range_round (n0 n3 : Nat) (y : Hit) (v : H) (J : H → Prop) (env : List (Nat × Value)) (he : (9, Value.pointer (some ⟨n3, 0, none⟩)) ∈ env) (he' : (5, Value.pointer (some ⟨n0, 0, none⟩)) ∈ env)
    (h : ∀ m, v m = none → H.St (v.ins m (.cells #[.int .i64 0, .int .u64 0, .int .u64 0] 62 (0, 0))) ⟨m, 0, none⟩ [.int .i64 y.1, .int .u64 (hiW y.2), .int .u64 (loW y.2)] fun u1 => Exit.normal = Exit.normal ∧ ([] : List (List Value)) = [] ∧
      ∃ x2 : Int, u1.cell? ((Addr.mk m 0 none).add 1) = some (.int .u64 x2) ∧ ∃ x3 : Int, u1.cell? (((Addr.mk m 0 none).add 1).add 1) = some (.int .u64 x3) ∧
        ∃ y2 : Int, u1.cell? ⟨n0, 0, none⟩ = some (.int .u64 y2) ∧ ∃ y3 : Int, u1.cell? ((Addr.mk n0 0 none).add 1) = some (.int .u64 y3) ∧
        C.wide_Cmp x2 x3 y2 y3 u1 fun z u2 => (z ≤ 0 → ∃ s : Sl, u2.cell? ⟨n3, 0, none⟩ = some (.slice s.a s.n s.c) ∧
          ∃ z1 : Int, u2.cell? ⟨m, 0, none⟩ = some (.int .i64 z1) ∧ ∃ z2 : Int, u2.cell? ((Addr.mk m 0 none).add 1) = some (.int .u64 z2) ∧ ∃ z3 : Int, u2.cell? ((Addr.mk m 0 none).add 2) = some (.int .u64 z3) ∧
          SemT Tryz.prog (Instr.buildSlice 29 1 #[(0, .agg #[.int .i64 z1, .int .u64 z2, .int .u64 z3])]) [.one .slice] u2 fun (s1 : Sl) u3 =>
            SemT Tryz.prog (Builtin.append_ #[29, 29] 29 #[.slice s.a s.n s.c, .slice s1.a s1.n s1.c]) [.one .slice] u3 fun (s2 : Sl) u4 =>
              H.St u4 ⟨n3, 0, none⟩ [.slice s2.a s2.n s2.c] fun u5 => Exit.normal = Exit.normal ∧ J u5) ∧ (¬ z ≤ 0 → Exit.normal = Exit.normal ∧ J u2)) :
    RoundOk Tryz.prog 33 (rgA rangeC) (rgB rangeC) env 20 (hitV y) v J :=
  RoundOk.of (C := { P := Tryz.prog, exp := [10], wrap := false, eqT := eqT }) (good _ _) (by kernel_rfl) (by kernel_rfl) [(20, .v (hitV y)), (9, .ptr ⟨n3, 0, none⟩), (5, .ptr ⟨n0, 0, none⟩)] (by
    intro p hp
    rcases List.mem_cons.1 hp with rfl | hp
    · exact ⟨_, rfl, .inl ⟨rfl, rfl⟩⟩
    · rcases List.mem_cons.1 hp with rfl | hp
      · exact ⟨_, rfl, .inr ⟨show (9 : Nat) ≠ 20 by decide, he⟩⟩
      · rcases List.mem_cons.1 hp with rfl | hp
        · exact ⟨_, rfl, .inr ⟨show (5 : Nat) ≠ 20 by decide, he'⟩⟩
        · cases hp) (Eq.mp (by kernel_rfl) h)

theorem st_one {u : H} {n : Nat} {old v : Value} {T : TypeId} {f : H → Prop} (hn : u n = some (.cells #[old] T (0, 0))) (h1 : v.oneCell' = true) (hf : f (u.ins n (.cells #[v] T (0, 0)))) : H.St u ⟨n, 0, none⟩ [v] f :=
  ⟨_, _, hn, rfl, by simp, by simp [h1], hf⟩

theorem spec.flat_Range {s t : Sl} {l : List Rw} {q : List Int} {hi lo : Int} {u : H} {K : Sl → Int → H → Prop} (hs : Rws u s l) (ht : Ints u t q) (hlo : U64 lo)
    (hbad : asked l q ≠ 0 → ∀ u', u.le u' → K ⟨none, 0, 0⟩ (asked l q) u') (hok : Qok l q → ∀ s' u', OwnF u u' 62 3 s' ((within (wv hi lo) (l.map (hitOf q))).flatMap encH) → K s' 0 u') : C.flat_Range s t hi lo u K := by
  apply vc.flat_Range
  intro nr hnr
  generalize hor : Obj.cells #[Value.int .u64 hi, .int .u64 lo] 60 (0, 0) = or
  have lr := H.le_ins (u := u) (b := nr) or hnr
  refine spec.flat_asked (hs.mono lr) (ht.mono lr) ⟨fun hne => hbad hne _ lr, fun he => ?_⟩
  have hqok := asked_ok.1 he
  intro n3 hn3
  generalize ho3 : Obj.cells #[Value.slice none 0 0] 29 (0, 0) = o3
  apply vc.flat_hits
  intro na hna nb hnb
  generalize hoa : Obj.cells #[Value.slice s.a s.n s.c] 22 (0, 0) = oa at hnb ⊢
  generalize hob : Obj.cells #[Value.slice t.a t.n t.c] 23 (0, 0) = ob
  have hl3 : (u.ins nr or).le ((u.ins nr or).ins n3 o3) := H.le_ins _ hn3
  have hua : (u.ins nr or) na = none := hl3.none hna
  have hub1 : ((u.ins nr or).ins na oa) nb = none := (H.ins_le hl3 na oa).none hnb
  have hn3a : n3 ≠ na := fun e => by rw [← e, H.ins_same] at hna; cases hna
  have hn3b : n3 ≠ nb := fun e => by rw [← e, H.ins_other _ _ hn3a, H.ins_same] at hnb; cases hnb
  have lub : u.le (((u.ins nr or).ins na oa).ins nb ob) := (lr.trans (H.le_ins _ hua)).trans (H.le_ins _ hub1)
  have hle2 : (((u.ins nr or).ins na oa).ins nb ob).le ((((u.ins nr or).ins n3 o3).ins na oa).ins nb ob) := H.ins_le (H.ins_le hl3 na oa) nb ob
  have hbox : ((((u.ins nr or).ins n3 o3).ins na oa).ins nb ob) n3 = some (.cells #[.slice none 0 0] 29 (0, 0)) := by
    rw [H.ins_other _ _ hn3b, H.ins_other _ _ hn3a, H.ins_same, ho3]
  have hub3 : (((u.ins nr or).ins na oa).ins nb ob) n3 = none := by
    rw [H.ins_other _ _ hn3b, H.ins_other _ _ hn3a]; exact hn3
  have cr : ∀ w, (((u.ins nr or).ins na oa).ins nb ob).le w → w.cell? ⟨nr, 0, none⟩ = some (.int .u64 hi) ∧ w.cell? ((Addr.mk nr 0 none).add 1) = some (.int .u64 lo) := by
    intro w hw
    have h1 : (((u.ins nr or).ins na oa).ins nb ob) nr = some or := (H.le_ins _ hub1) _ _ ((H.le_ins _ hua) _ _ (H.ins_same _ _ _))
    have h2 := hw _ _ h1
    rw [← hor] at h2
    rw [add1]
    exact ⟨H.cell?_of h2 0, H.cell?_of h2 1⟩
  have c0 : (((u.ins nr or).ins na oa).ins nb ob).cell? ⟨na, 0, none⟩ = some (.slice s.a s.n s.c) := by
    refine cell_ins_other ?_ hub1
    rw [← hoa]; exact H.cell?_of (H.ins_same _ _ _) 0
  have c1 : (((u.ins nr or).ins na oa).ins nb ob).cell? ⟨nb, 0, none⟩ = some (.slice t.a t.n t.c) := by
    rw [← hob]; exact H.cell?_of (H.ins_same _ _ _) 0
  generalize (((u.ins nr or).ins na oa).ins nb ob) = ub at hle2 lub hub3 cr c0 c1
  generalize ((((u.ins nr or).ins n3 o3).ins na oa).ins nb ob) = u5 at hle2 hbox ⊢
  clear hub1 hua hna hnb hn3 hl3
  have hlen : l.length ≤ 512 := hqok.rows.len
  refine RgS.code rangeC_eq (RgS.intro (t := 19) hle2 callOk (by simp) (by decide) (fun w hw => hits_iter (hs.mono (lub.trans hw)) (ht.mono (lub.trans hw)) hqok (H.cell?_mono hw c0) (H.cell?_mono hw c1))
    (fun i w => ∃ s0 : Sl, w n3 = some (.cells #[.slice s0.a s0.n s0.c] 29 (0, 0)) ∧ OwnF ub w 62 3 s0 ((((l.map (hitOf q)).take i).filter fun h => decide (h.2 ≤ wv hi lo)).flatMap encH) ∧ s0.blk ≠ some n3)
    ⟨⟨none, 0, 0⟩, hbox, OwnF.nil hle2 _ _, by simp [Sl.blk]⟩ (fun i v ⟨_, _, ho, _⟩ => ho.le) ?_ ?_)
  · rintro i y v hy ⟨s0, hb0, ho0, hne0⟩
    have hil : i < l.length := by
      have := (List.getElem?_eq_some_iff.1 hy).1
      simpa using this
    have hcnt : ∀ L : List Hit, ((L.take i).filter fun h => decide (h.2 ≤ wv hi lo)).length ≤ i := fun L => Nat.le_trans (List.length_filter_le _ _) (by simp; omega)
    refine range_round nr n3 y v _ _ (by simp) (by simp) fun m hm => st_new3 ⟨rfl, rfl, ?_⟩
    obtain ⟨d0, d1, d2⟩ := cells3 (u := v) (m := m) (y := y) (T := 62)
    have lm := H.le_ins (u := v) (b := m) (Obj.cells (encH y).toArray 62 (0, 0)) hm
    generalize v.ins m (Obj.cells (encH y).toArray 62 (0, 0)) = v1 at d0 d1 d2 lm ⊢
    have ho1 := ho0.mono lm
    have hb1 := lm _ _ hb0
    obtain ⟨r0, r1⟩ := cr v1 ho1.le
    have key : (wv (hiW y.2) (loW y.2) ≤ wv hi lo) ↔ y.2 ≤ wv hi lo := by rw [wv_hl]
    refine ⟨_, d1, _, by rw [Addr.add_add']; exact d2, _, r0, _, r1, spec.wide_Cmp (loU _) hlo ⟨fun hz => ⟨s0, H.cell?_of hb1 0, _, d0, _, d1, _, d2, ?_⟩, fun hz => ⟨rfl, s0, hb1, ?_, hne0⟩⟩⟩
    · have hle' : y.2 ≤ wv hi lo := by
        rw [← key]
        revert hz
        split
        · omega
        · split <;> omega
      have hn0 := ho1.hts.len
      have := hcnt (l.map (hitOf q))
      refine sem_push' tHits (build_hit _ _ _) (by decide) rfl (by simp [Value.oneCell']) ho1 (by omega) (by omega) fun s2 u4 ho2 hn2 hel hbl _ => st_one (hel _ _ hb1 hne0) rfl ⟨rfl, s2, H.ins_same _ _ _, ?_, ?_⟩
      · have hne2 : s2.blk ≠ some n3 := fun e => by
          rcases hbl n3 e with h | h
          · exact hne0 h
          · rw [hb1] at h; cases h
        rw [flat_push] at ho2
        have := ho2.insOut hub3 hne2 (.cells #[.slice s2.a s2.n s2.c] 29 (0, 0))
        rw [take_map_succ _ _ _ _ hy, List.filter_append]
        simpa [hle'] using this
      · exact fun e => by
          rcases hbl n3 e with h | h
          · exact hne0 h
          · rw [hb1] at h; cases h
    · have hle' : ¬ y.2 ≤ wv hi lo := by
        rw [← key]
        revert hz
        split
        · omega
        · split <;> omega
      rw [take_map_succ _ _ _ _ hy, List.filter_append]
      simpa [hle'] using ho1
  · rintro v D ⟨s0, hb0, ho0, hne0⟩ hD
    have hle := H.le_ins (u := v) (b := D) (Obj.deferred (some [])) hD
    have ho1 := ho0.mono hle
    have hb1 := hle _ _ hb0
    have hDv : s0.blk ≠ some D := fun e => by
      rcases ho0.own.is with h0 | ⟨g, cur, ha, hg, _⟩
      · rw [h0] at e; simp [Sl.blk] at e
      · have : g = D := by simpa [Sl.blk, ha] using e
        rw [this, hD] at hg; cases hg
    rw [List.length_map, List.take_of_length_le (by simp)] at ho1
    have hsm : ((l.map (hitOf q)).filter fun h => decide (h.2 ≤ wv hi lo)).length ≤ 512 := Nat.le_trans (List.length_filter_le _ _) (by simpa using hlen)
    refine ⟨s0, H.cell?_of hb1 0, spec.slices_SortFunc__api_Hit_ (cf := fun a b => if hlt a b = true then -1 else 1) (fun a b => by by_cases h : hlt a b = true <;> simp [h]) (enters_of Tryz.func54 (by kernel_rfl) rfl)
      (fun a b u' => spec.flat_Range_1 (K := fun z' u2 => z' = (if hlt a b = true then -1 else 1) ∧ u2 = u') ⟨rfl, rfl⟩) ho1 (by omega) fun u2 ho2 hel => ⟨s0, H.cell?_of (hel _ _ hb1 hne0) 0, hel _ _ (H.ins_same _ _ _) hDv, hok hqok s0 _ ?_⟩⟩
    exact ((ho2.weaken lub).insOut ((lub.trans ho0.le).none hD) hDv _)

end Go.Proofs.YtgfafpiinencpaaGreat
