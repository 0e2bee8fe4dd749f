/- The document's hits: of all rows, in their order. -/
import Derived.Test.YtgfafpiinencpaaGreatVcHits2
namespace Go.Proofs.YtgfafpiinencpaaGreat

theorem tHits : elemT Tryz.prog 29 = some (62, 3, 24, [.int .i64 0, .int .u64 0, .int .u64 0]) := by kernel_rfl
theorem build_hit (x y z : Int) : buildOf Tryz.prog 29 1 #[(0, .agg #[.int .i64 x, .int .u64 y, .int .u64 z])] = some (62, [.int .i64 x, .int .u64 y, .int .u64 z]) := by kernel_rfl

theorem OwnF.rebase {u0 u : H} {e k : Nat} {s : Sl} {xs : List Value} (h : OwnF u0 u e k s xs) {n : Nat} (hn : u n = none) (o : Obj) : OwnF (u0.ins n o) (u.ins n o) e k s xs := by
  refine ⟨h.own.le fun b x _ hb => H.le_ins _ hn _ _ hb, fun b x hb => ?_, fun g hg => ?_⟩
  · unfold H.ins at hb ⊢
    split at hb
    · rename_i hbn; rw [if_pos hbn]; exact hb
    · rename_i hbn; rw [if_neg hbn]; exact h.le b x hb
  · rcases h.own.is with h0 | ⟨g', cur, ha, hg', _⟩
    · rw [h0] at hg; simp [Sl.blk] at hg
    · have : g' = g := by simpa [Sl.blk, ha] using hg
      subst this
      rw [H.ins_other _ _ (fun hgn => by rw [hgn, hn] at hg'; cases hg')]
      exact h.fresh g' hg

theorem H.le.none {u u' : H} (h : u.le u') {n : Nat} (hn : u' n = none) : u n = none := by
  cases hx : u n with
  | none => rfl
  | some o => rw [h _ _ hx] at hn; cases hn

theorem st_new {u : H} {n : Nat} {zs vs : List Value} {T : TypeId} {f : H → Prop} (hl : zs.length = vs.length) (h1 : ∀ v ∈ vs, v.oneCell' = true) (hf : f (u.ins n (.cells vs.toArray T (0, 0)))) :
    H.St (u.ins n (.cells zs.toArray T (0, 0))) ⟨n, 0, none⟩ vs f := by
  refine ⟨zs.toArray, T, H.ins_same _ _ _, rfl, by simp [hl], h1, ?_⟩
  rw [H.ins_ins]
  have : wr zs.toArray 0 vs = vs.toArray := by
    have := wr_toList zs.toArray 0 vs (by simp [hl])
    simp only [List.take_zero, List.nil_append, Nat.zero_add] at this
    rw [List.drop_eq_nil_of_le (by simp [hl])] at this
    apply Array.ext'
    rw [this]; simp
  show f (u.ins n (.cells (wr zs.toArray 0 vs) T (0, 0)))
  rw [this]; exact hf

theorem set_mid {α : Type} (A : List α) (z y : α) (B : List α) : (A ++ z :: B).set A.length y = A ++ y :: B := by
  induction A with
  | nil => rfl
  | cons a A ih => simp [ih]

theorem get_mid {α : Type} (A : List α) (z : α) (B : List α) : (A ++ z :: B)[A.length]? = some z := by
  rw [List.getElem?_append_right (Nat.le_refl _)]; simp

theorem OwnF.hts {u0 u : H} {e : Nat} {s : Sl} {l : List Hit} (h : OwnF u0 u e 3 s (l.flatMap encH)) : Hts u s l := h.own.seg

theorem flat_push (l : List Hit) (h : Hit) : l.flatMap encH ++ [.int .i64 h.1, .int .u64 (hiW h.2), .int .u64 (loW h.2)] = (l ++ [h]).flatMap encH := by simp [encH]

theorem spec.theodoliteref05_Hits {s t : Sl} {l : List Rw} {q : List Int} {u : H} {K : Sl → H → Prop} (hs : Rws u s l) (ht : Ints u t q) (hq : ∀ r ∈ l, vok r.v ∧ r.v.length = q.length) (hvq : vok q) (hlen : l.length ≤ 2000)
    (h : ∀ s' u', OwnF u u' 62 3 s' ((sortH (l.map (hitOf q))).flatMap encH) → K s' u') : C.theodoliteref05_Hits s t u K := by
  have hn := hs.len
  have hdok : ∀ r ∈ l, Dok (hitOf q r).2 := fun r hr => sqTo_ok (hq r hr).1 hvq (hq r hr).2
  apply vc.theodoliteref05_Hits
  refine ⟨fun s2 i v => 0 ≤ i ∧ i ≤ (s.n : Int) ∧ ∃ L : List Hit, OwnF u v 62 3 s2 (L.flatMap encH) ∧ Srt L ∧ L.Perm ((l.take i.toNat).map (hitOf q)), fun _ i _ => s.n - i.toNat,
    ⟨by omega, by omega, [], OwnF.nil (H.le.refl u) _ _, List.Pairwise.nil, by simp⟩, ?_⟩
  rintro s2 i v ⟨h0, hi1, L, hL, hsrt, hperm⟩
  refine ⟨fun hi => ?_, fun hi => ?_⟩
  · intro K5 hK5
    obtain ⟨p, hp1, r, hr, c0, c1, hiv⟩ := (hs.mono hL.le).at h0 hi
    have hrm : r ∈ l := List.mem_of_getElem? hr
    obtain ⟨hvr, hlr⟩ := hq r hrm
    -- the rest, of a hit that lies in a new block
    have key : ∀ n x y, v n = none → U64 x → U64 y → wv x y = (hitOf q r).2 → K5 ⟨n, 0, none⟩ (v.ins n (.cells [.int .i64 r.id, .int .u64 x, .int .u64 y].toArray 62 (0, 0))) := by
      intro n x y hvn hx hy hw
      refine hK5 _ _ ?_
      clear hK5
      generalize hh : hitOf q r = hit at hw
      have hh1 : r.id = hit.1 := by rw [← hh]; rfl
      have hhd : Dok hit.2 := by rw [← hh]; exact hdok r hrm
      have ex : x = hiW hit.2 := by rw [← hw, hi_wv hy]
      have ey : y = loW hit.2 := by rw [← hw, lo_wv hy]
      subst ex; subst ey
      rw [hh1]
      have hB := hL.rebase hvn (.cells (encH hit).toArray 62 (0, 0))
      show ∃ x8 : Int, _
      have hun := hL.le.none hvn
      generalize hu1 : v.ins n (Obj.cells (encH hit).toArray 62 (0, 0)) = u1 at hB
      have hu1' : v.ins n (Obj.cells [Value.int .i64 hit.1, .int .u64 (hiW hit.2), .int .u64 (loW hit.2)].toArray 62 (0, 0)) = u1 := hu1
      rw [hu1']
      generalize hu0 : u.ins n (Obj.cells (encH hit).toArray 62 (0, 0)) = u0 at hB
      have cu0 : ∀ j w, (encH hit)[j]? = some w → u0.cell? ((Addr.mk n 0 none).add j) = some w := by
        intro j w hj
        rw [Addr.add_lit, Nat.zero_add, ← hu0, H.cell?_ins]
        simpa using hj
      have cell : ∀ w, u0.le w → w.cell? ⟨n, 0, none⟩ = some (.int .i64 hit.1) ∧ w.cell? ((Addr.mk n 0 none).add 1) = some (.int .u64 (hiW hit.2)) ∧ w.cell? ((Addr.mk n 0 none).add 2) = some (.int .u64 (loW hit.2)) :=
        fun w hw => ⟨H.cell?_mono hw (cu0 0 _ rfl), H.cell?_mono hw (cu0 1 _ rfl), H.cell?_mono hw (cu0 2 _ rfl)⟩
      have hu0le : u.le u0 := by rw [← hu0]; exact H.le_ins _ hun
      have hLn := hL.hts.len
      have hLl : L.length ≤ 2000 := by
        have := hperm.length_eq
        simp only [List.length_map, List.length_take] at this
        omega
      obtain ⟨d0, d1, d2⟩ := cell u1 hB.le
      refine ⟨_, d0, _, d1, _, d2, sem_push' tHits (build_hit _ _ _) (by decide) rfl (by simp [Value.oneCell']) hB (by omega) (by omega) ?_⟩
      intro s13 u14 hO hsn _ _ _
      rw [flat_push] at hO
      refine ⟨fun k w => 0 ≤ k ∧ ∃ (A B : List Hit) (z : Hit), k = (A.length : Int) ∧ A ++ B = L ∧ (∀ b ∈ B, hlt hit b = true) ∧ OwnF u0 w 62 3 s13 ((A ++ z :: B).flatMap encH), fun k _ => k.toNat,
        ⟨by omega, L, [], hit, by rw [hLn], by simp, by simp, hO⟩, ?_⟩
      clear hO
      rintro k w ⟨k0, A, B, z, rfl, hAB, hBh, hO⟩
      intro K19 hK19
      have hs13 : s13.n = A.length + B.length + 1 := by have := hO.hts.len; simp at this; omega
      have hALl : A.length + B.length ≤ 2000 := by rw [← hAB] at hLl; simpa using hLl
      obtain ⟨e0, e1, e2⟩ := cell w hO.le
      -- the place is found
      have place : ∀ pp, s13.a = some pp → (∀ a ∈ A, hlt hit a = false) →
          H.St w (pp.add ((A.length : Int).toNat * 3)) [.int .i64 hit.1, .int .u64 (hiW hit.2), .int .u64 (loW hit.2)] fun u40 => InR (i + 1) ∧
            (0 ≤ i + 1 ∧ i + 1 ≤ (s.n : Int) ∧ ∃ L : List Hit, OwnF u u40 62 3 s13 (L.flatMap encH) ∧ Srt L ∧ L.Perm ((l.take (i + 1).toNat).map (hitOf q))) ∧ s.n - (i + 1).toNat < s.n - i.toNat := by
        intro pp hpp hA
        rw [show (A.length : Int).toNat = A.length by omega]
        refine OwnF.store (enc := encH) encH_len hO (by decide) (by simp) (y := hit) (encH_one hit) hpp fun u' hO' _ _ => ⟨⟨by omega, by omega⟩, ⟨by omega, by omega, A ++ hit :: B, ?_, ?_, ?_⟩, by omega⟩
        · rw [set_mid] at hO'
          exact hO'.weaken hu0le
        · rw [← hAB] at hsrt
          obtain ⟨s1, s2, s3⟩ := hsrt.append
          refine List.pairwise_append.2 ⟨s1, List.pairwise_cons.2 ⟨fun b hb => hlt_asymm (hBh b hb), s2⟩, fun a ha b hb => ?_⟩
          rcases List.mem_cons.1 hb with rfl | hb
          · exact hA a ha
          · exact s3 a ha b hb
        · rw [show (i + 1).toNat = i.toNat + 1 by omega, List.take_add_one, hr]
          simp only [Option.toList, List.map_append, List.map_cons, List.map_nil, hh]
          refine List.perm_middle.trans ((List.Perm.cons _ ?_).trans (List.perm_append_singleton _ _).symm)
          rw [hAB]; exact hperm
      refine ⟨fun hk => ?_, fun hk => ?_⟩
      · obtain ⟨A', a, rfl⟩ : ∃ A' a, A = A' ++ [a] := ⟨A.dropLast, A.getLast (by intro e; simp [e] at hk), (List.dropLast_concat_getLast _).symm⟩
        simp only [List.length_append, List.length_cons, List.length_nil, Nat.zero_add] at *
        have hk1 : (((A'.length + 1 : Nat) : Int) - 1).toNat = A'.length := by omega
        have hb1 : 0 ≤ ((A'.length + 1 : Nat) : Int) - 1 := by omega
        have hb2 : ((A'.length + 1 : Nat) : Int) - 1 < (s13.n : Int) := by omega
        obtain ⟨pp, hpp, x, hx, f0, f1, f2⟩ := hO.hts.at hb1 hb2
        have hxa : x = a := by
          rw [hk1] at hx
          simp only [List.append_assoc, List.singleton_append, List.cons_append] at hx
          rw [get_mid] at hx
          cases hx; rfl
        subst hxa
        have hxm : Dok x.2 := by
          have : x ∈ L := by rw [← hAB]; simp
          obtain ⟨r', hr', he⟩ := List.mem_map.1 (hperm.mem_iff.1 this)
          rw [← he]; exact hdok r' (List.mem_of_mem_take hr')
        refine ⟨⟨by omega, by omega⟩, pp, hpp, ⟨hb1, hb2⟩, _, e0, _, e1, _, e2, _, f0, _, f1, _, f2, spec.theodoliteref05_Before hhd hxm ⟨fun hb => hK19 _ ?_, fun hb => ⟨_, e0, _, e1, _, e2, pp, hpp, ⟨by omega, by omega⟩, ?_⟩⟩⟩
        · refine ⟨⟨by omega, by omega⟩, pp, hpp, ⟨hb1, hb2⟩, _, f0, _, f1, _, f2, pp, hpp, ⟨by omega, by omega⟩, ?_⟩
          rw [show ((A'.length + 1 : Nat) : Int).toNat = (A' ++ [x]).length by simp]
          refine OwnF.store (enc := encH) encH_len hO (by decide) (by simp) (y := x) (encH_one x) hpp fun u' hO' _ _ => ⟨⟨by omega, by omega⟩, ⟨by omega, A', x :: B, x, by omega, by simpa using hAB, ?_, ?_⟩, ?_⟩
          · intro b hb'
            rcases List.mem_cons.1 hb' with rfl | hb'
            · exact hb
            · exact hBh b hb'
          · rw [set_mid] at hO'
            simpa using hO'
          · rw [List.length_append, List.length_singleton]
            omega
        · refine place pp hpp fun y hy => ?_
          rcases List.mem_append.1 hy with hy | hy
          · rw [← hAB] at hsrt
            have := (List.pairwise_append.1 (hsrt.append).1).2.2 y hy x (by simp)
            exact hlt_le_trans this hb
          · simp at hy; subst hy; exact hb
      · have hA0 : A = [] := by cases A with
          | nil => rfl
          | cons => simp at hk
        obtain ⟨pp, hpp, _⟩ := hO.hts.at (x := (A.length : Int)) (by omega) (by omega)
        refine ⟨_, e0, _, e1, _, e2, pp, hpp, ⟨by omega, by omega⟩, place pp hpp fun a ha => by rw [hA0] at ha; cases ha⟩
    clear hK5
    refine ⟨p, hp1, ⟨h0, hi⟩, p, hp1, ⟨h0, hi⟩, _, c0, _, c1, ?_, fun n hvn => ⟨H.le_ins _ hvn, ?_⟩⟩
    · refine spec.theodoliteref03_Far hiv (ht.mono hL.le) hvr hvq hlr fun x y hx hy hw => ⟨H.le.refl _, fun n hvn => ⟨H.le_ins _ hvn, st_new (zs := [.int .i64 0, .int .u64 0, .int .u64 0]) rfl (by simp [Value.oneCell']) (key n x y hvn hx hy hw)⟩⟩
    · have hle := H.le_ins (u := v) (b := n) (Obj.cells #[Value.int .i64 0, .int .u64 0, .int .u64 0] 62 (0, 0)) hvn
      refine spec.theodoliteref03_Far (hiv.mono hle) ((ht.mono hL.le).mono hle) hvr hvq hlr fun x y hx hy hw => ?_
      first
        | exact st_new (zs := [.int .i64 0, .int .u64 0, .int .u64 0]) rfl (by simp [Value.oneCell']) (key n x y hvn hx hy hw)
        | exact ⟨hle, st_new (zs := [.int .i64 0, .int .u64 0, .int .u64 0]) rfl (by simp [Value.oneCell']) (key n x y hvn hx hy hw)⟩
  · refine h _ _ ?_
    have hi' : i.toNat = l.length := by omega
    rw [hi', List.take_length] at hperm
    rw [← sortH_of hperm hsrt]
    exact hL

end Go.Proofs.YtgfafpiinencpaaGreat
