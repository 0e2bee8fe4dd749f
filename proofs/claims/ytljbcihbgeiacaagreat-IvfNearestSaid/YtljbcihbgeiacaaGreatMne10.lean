/- Texts of mine, joined by merge.py: VcRef06, VcRef06b, VcIvLs, VcLawLs, VcSymP, VcSymQ, VcStab, VcSymI, VcNe, VcLawNe. -/
import Derived.Test.YtljbcihbgeiacaaGreatMne9
set_option maxRecDepth 100000

/- VcRef06 -/
namespace Go.Proofs.YtljbcihbgeiacaaGreat

theorem build_vecs1 (s : Sl) : buildOf Tryz.prog 68 1 #[(0, .slice s.a s.n s.c)] = some (41, [.slice s.a s.n s.c]) := by kernel_rfl
theorem build_int1 (x : Int) : buildOf Tryz.prog 41 1 #[(0, .int .i64 x)] = some (3, [.int .i64 x]) := by kernel_rfl

theorem ints_known {u : H} {s : Sl} {l : List Int} (h : Ints u s l) (hl : 0 < l.length) {g : Nat} (hg : s.blk = some g) : u g ≠ none := by
  have hn := h.len
  obtain ⟨p, hp, hc⟩ := h.at (x := 0) (by omega) (by omega)
  have e : p.block = g := by simpa [Sl.blk, hp] using hg
  intro h0
  unfold H.cell? at hc
  have e2 : (p.add ((0 : Int).toNat * 1)).block = g := e
  rw [e2, h0] at hc
  cases hc

theorem spec.theodoliteref06_Nearest {u : H} {s t : Sl} {l : List (Sl × List Int)} {v : List Int} {d : Int} {K : Int → Int → Int → H → Prop} (h : VcsAt u s l) (hc : CsOk l d) (ht : Ints u t v) (hv : vok v) (hvd : (v.length : Int) = d)
    (hK : ∀ x y, U64 x → U64 y → wv x y = (nearTo (l.map (·.2)) v l.length).2 → K (nearI (l.map (·.2)) v : Int) x y u) : C.theodoliteref06_Nearest s t u K := by
  have hn := h.len
  have hm := hc.many
  have hd := hc.dim
  apply vc.theodoliteref06_Nearest
  obtain ⟨p, hp, c, hcx, hcm, c0, hci⟩ := h.at (x := 0) (by omega) (by omega)
  obtain ⟨e1, e2⟩ := hc.each c hcm
  have hlen : c.2.length = v.length := by omega
  have eg0 : (l.map (·.2)).getD 0 [] = c.2 := by
    have : l[0]? = some c := hcx
    rw [List.getD_eq_getElem?_getD, List.getElem?_map, this]; rfl
  refine ⟨p, hp, ⟨by omega, by omega⟩, _, c0, spec.theodoliteref03_Far hci ht e2 hv hlen fun x0 y0 hx0 hy0 hw0 => ?_⟩
  have one : nearTo (l.map (·.2)) v 1 = (0, sqTo c.2 v v.length) := by
    show (if _ then _ else _) = _
    rw [if_pos (.inl rfl), eg0]
  refine ⟨fun a i x y w => w = u ∧ 1 ≤ i ∧ i ≤ s.n ∧ a = (nearTo (l.map (·.2)) v i.toNat).1 ∧ U64 x ∧ U64 y ∧ wv x y = (nearTo (l.map (·.2)) v i.toNat).2, fun _ i _ _ _ => ((s.n : Int) - i).toNat, ⟨rfl, by omega, by omega, by show _ = ((nearTo _ _ 1).1 : Int); rw [one]; rfl, hx0, hy0, by show _ = (nearTo _ _ 1).2; rw [one, hw0, hlen]⟩, ?_⟩
  rintro a i x y w ⟨rfl, i0, i1, ea, hx, hy, hw⟩
  refine ⟨fun hi => ?_, fun hi => ?_⟩
  · obtain ⟨p, hp, c, hcx, hcm, c0, hci⟩ := h.at (x := i) (by omega) hi
    obtain ⟨e1, e2⟩ := hc.each c hcm
    have eg : (l.map (·.2)).getD i.toNat [] = c.2 := by rw [List.getD_eq_getElem?_getD, List.getElem?_map, hcx]; rfl
    have hlen : c.2.length = v.length := by omega
    refine ⟨p, hp, ⟨by omega, hi⟩, _, c0, spec.theodoliteref03_Far hci ht e2 hv hlen fun x' y' hx' hy' hw' => ?_⟩
    rw [hlen] at hw'
    have step : nearTo (l.map (·.2)) v (i + 1).toNat = if i.toNat = 0 ∨ sqTo c.2 v v.length < (nearTo (l.map (·.2)) v i.toNat).2 then (i.toNat, sqTo c.2 v v.length) else nearTo (l.map (·.2)) v i.toNat := by
      rw [show (i + 1).toNat = i.toNat + 1 by omega]
      show (if _ then _ else _) = _
      rw [eg]
    refine spec.theodoliteref01_Less hx' hy' hx hy ?_
    rw [hw, hw']
    refine ⟨fun hb => ?_, fun hb => ?_⟩
    · have hlt := of_decide_eq_true hb
      refine ⟨⟨by omega, by omega⟩, ⟨rfl, by omega, by omega, ?_, hx', hy', ?_⟩, by dsimp only; omega⟩
      · rw [step, if_pos (.inr hlt)]
        show i = ((i.toNat : Nat) : Int)
        omega
      · rw [step, if_pos (.inr hlt)]; exact hw'
    · have hlt := of_decide_eq_false hb
      refine ⟨⟨by omega, by omega⟩, ⟨rfl, by omega, by omega, ?_, hx, hy, ?_⟩, by dsimp only; omega⟩
      · rw [step, if_neg (fun h => h.elim (fun e => by omega) hlt)]; exact ea
      · rw [step, if_neg (fun h => h.elim (fun e => by omega) hlt)]; exact hw
  · have e : i.toNat = l.length := by omega
    rw [e] at ea hw
    have en : nearI (l.map (·.2)) v = (nearTo (l.map (·.2)) v l.length).1 := by unfold nearI; rw [List.length_map]
    rw [ea, ← en]
    exact hK x y hx hy hw

theorem spec.theodoliteref06_down {a b : Int} {u : H} {K : Int → H → Prop} (hb : 0 < b) (h1 : -10000000000000 ≤ a) (h2 : a ≤ 10000000000000) (hK : K (a / b) u) : C.theodoliteref06_down a b u K := by
  obtain ⟨d1, d2⟩ := down_eq (a := a) hb
  have hm := Int.mul_tdiv_add_tmod a b
  have h5 : (Int.tmod a b).natAbs < b.natAbs := by rw [Int.natAbs_tmod]; exact Nat.mod_lt _ (by omega)
  have h6 : (Int.tmod a b).natAbs ≤ a.natAbs := by rw [Int.natAbs_tmod]; exact Nat.mod_le _ _
  have hq1 : -10000000000000 ≤ a / b := Int.le_ediv_of_mul_le hb (by
    have : -10000000000000 * b ≤ -10000000000000 * 1 := Int.mul_le_mul_of_nonpos_left (by omega) (by omega)
    omega)
  have hq2 : a / b ≤ 10000000000000 := Int.ediv_le_of_le_mul hb (by
    have : 10000000000000 * 1 ≤ 10000000000000 * b := Int.mul_le_mul_of_nonneg_left (by omega) (by omega)
    omega)
  rw [Int.mul_comm] at hm
  apply vc.theodoliteref06_down
  refine ⟨by omega, ?_, ⟨by omega, by omega⟩, fun hn => ?_, fun hn => ?_⟩
  · by_cases hn : Int.tmod a b < 0
    · have := d1 hn; exact ⟨by omega, by omega⟩
    · have := d2 hn; exact ⟨by omega, by omega⟩
  · rw [d1 (by omega)]
    exact ⟨⟨by omega, by omega⟩, hK⟩
  · rw [d2 (by omega)]
    exact hK

theorem spec.theodoliteref06_vectors {u : H} {s : Sl} {l : List (Sl × List Int)} {d : Int} {K : Int → H → Prop} (h : VcsAt u s l) (hd : 1 ≤ d ∧ d ≤ 64) (hc : ∀ c ∈ l, (c.2.length : Int) = d ∧ vok c.2) (hl : l.length ≤ 1000000) (hK : K 0 u) : C.theodoliteref06_vectors s d u K := by
  have hn := h.len
  apply vc.theodoliteref06_vectors
  refine ⟨fun _ x v => v = u ∧ 0 ≤ x, fun _ x _ => ((s.n : Int) - x).toNat, ⟨rfl, by omega⟩, ?_⟩
  rintro _ x v ⟨rfl, x0⟩
  refine ⟨fun hx => ?_, fun _ => hK⟩
  obtain ⟨p, hp, c, _, hcm, c0, hi⟩ := h.at x0 hx
  obtain ⟨e1, e2⟩ := hc c hcm
  exact ⟨p, hp, ⟨x0, hx⟩, _, c0, spec.theodoliteref03_Check hi ⟨fun hne => absurd (vcheck_reg e2 e1 hd) hne, fun _ => ⟨⟨by omega, by omega⟩, ⟨rfl, by omega⟩, by dsimp only; omega⟩⟩⟩

theorem spec.theodoliteref06_TrainErr {u : H} {s : Sl} {L : List (Sl × List Int)} {d : Nat} {k rounds : Int} {K : Int → H → Prop} (h : VcsAt u s L) (hok : ∀ c ∈ L, c.2.length = d ∧ vok c.2) (hd : 1 ≤ d ∧ d ≤ 64) (hfew : L.length ≤ 512) (hk : 1 ≤ k ∧ k ≤ 64) (hkl : k ≤ L.length) (hr : 0 ≤ rounds ∧ rounds ≤ 20)
    (hK : K 0 u) : C.theodoliteref06_TrainErr s k rounds u K := by
  have hn := h.len
  apply vc.theodoliteref06_TrainErr
  intro K0 h0
  refine ⟨fun hx => by omega, fun _ => ⟨fun hx => by omega, fun _ => ⟨fun hx => by omega, fun _ => ?_⟩⟩⟩
  have hdec : decide ((20 : Int) < rounds) = false := decide_eq_false (by omega)
  rw [hdec]
  refine h0 _ _ ⟨fun e => (by cases e), fun _ => ⟨fun hx => by omega, fun _ => ⟨fun hx => by omega, fun _ => ?_⟩⟩⟩
  obtain ⟨p, hp, c, _, hcm, c0, hi⟩ := h.at (x := 0) (by omega) (by omega)
  have hci := hi.len
  have hcl := (hok c hcm).1
  refine ⟨p, hp, ⟨by omega, by omega⟩, _, c0, ?_⟩
  rw [show ((c.1.n : Nat) : Int) = (d : Int) by omega]
  exact spec.theodoliteref06_vectors h (by omega) (fun c hc => ⟨by have := (hok c hc).1; omega, (hok c hc).2⟩) (by omega) hK

def src6 (st : Int) : Obj := .cells #[.int .u64 st] 167 (0, 0)

theorem spec.ref04_Perm {src : Nat} {st n : Int} {ub u : H} {K : Sl → Int → H → Prop} (h : u src = some (src6 st)) (hub : ub.le u) (hsb : ub src = none) (h0 : 0 ≤ n) (hn : n ≤ 65536)
    (hK : ∀ s' u', OwnF ub u' 3 1 s' ((permF st n.toNat).flatMap encI) → K s' 0 u') : C.theodoliteref04_Source__Perm (some ⟨src, 0, none⟩) n u K := by
  apply vc.theodoliteref04_Source__Perm
  intro K0 hK0
  refine ⟨fun hx => by omega, fun _ => ⟨fun hx => by omega, fun _ => hK0 ⟨none, 0, 0⟩ _ _ ?_⟩⟩
  clear hK0 K0
  refine ⟨fun s x w => 0 ≤ x ∧ x ≤ n ∧ u.le w ∧ OwnF u w 3 1 s ((numsL x.toNat).flatMap encI), fun _ x _ => (n - x).toNat, ⟨by omega, h0, H.le.refl u, OwnF.nil (H.le.refl u) _ _⟩, ?_⟩
  rintro s x w ⟨x0, x1, uw, ho⟩
  have hnl : (numsL x.toNat).length = x.toNat := by simp [numsL]
  have hsn : s.n = x.toNat := by have := ho.ints.len; rw [hnl] at this; exact this
  refine ⟨fun hx => ?_, fun hx => ?_⟩
  · refine sem_push' tInts (build_int1 x) (by decide) rfl (by simp [Value.oneCell']) ho (by show s.n < _; omega) (by show (s.n + 1) * _ ≤ _; omega) fun s' u' ho' _ _ _ _ => ⟨⟨by omega, by omega⟩, ⟨by omega, by omega, ho'.le, ?_⟩, by dsimp only; omega⟩
    have : (numsL (x + 1).toNat).flatMap encI = (numsL x.toNat).flatMap encI ++ [.int .i64 x] := by
      rw [show (x + 1).toNat = x.toNat + 1 by omega]
      unfold numsL
      rw [List.range_succ, List.map_append, List.map_singleton, Int.toNat_of_nonneg x0, List.flatMap_append]
      rfl
    rw [this]
    exact ho'
  have hxn : x = n := by omega
  subst hxn
  have hss : s.blk ≠ some src := fun e => by have := ho.fresh src e; rw [h] at this; cases this
  refine ⟨⟨by omega, by omega⟩, ?_⟩
  refine ⟨fun i v => i ≤ x - 1 ∧ ∃ st' l, v src = some (src6 st') ∧ l.length = x.toNat ∧ OwnF ub v 3 1 s (l.flatMap encI) ∧ permA i.toNat st' l = permF st x.toNat, fun i _ => i.toNat, ⟨by omega, st, numsL x.toNat, uw _ _ h, hnl, ho.weaken hub, by
    unfold permF
    rw [show (x - 1).toNat = x.toNat - 1 by omega]⟩, ?_⟩
  rintro i v ⟨i1, st', l, hsv, hll, hol, hp⟩
  refine ⟨fun hi => ?_, fun hi => ?_⟩
  · refine ⟨⟨by omega, by omega⟩, spec.ref04_Below hsv (by omega) (by omega) ?_⟩
    have h3 := Int.emod_nonneg (outS (nxS st')) (show i + 1 ≠ 0 by omega)
    have h4 := Int.emod_lt_of_pos (outS (nxS st')) (show 0 < i + 1 by omega)
    obtain ⟨kk, hkk⟩ : ∃ kk, kk = outS (nxS st') % (i + 1) := ⟨_, rfl⟩
    rw [← hkk] at h3 h4 ⊢
    have hov : OwnF ub (v.ins src (src6 (nxS st'))) 3 1 s (l.flatMap encI) := ⟨hol.own.le fun c o hc hu => by rw [H.ins_other _ _ (fun e => hss (by rw [hc, e]))]; exact hu, fun c o hc => by
      rw [H.ins_other _ _ (fun e => by rw [e, hsb] at hc; cases hc)]; exact hol.le c o hc, hol.fresh⟩
    have vs : (v.ins src (src6 (nxS st'))) src = some (src6 (nxS st')) := H.ins_same _ _ _
    have hsn' := hov.ints.len
    obtain ⟨p, hpp, ci⟩ := hov.ints.at (x := i) (by omega) (by omega)
    obtain ⟨p', hpp', ck⟩ := hov.ints.at (x := kk) (by omega) (by omega)
    have epp : p' = p := by rw [hpp] at hpp'; exact (Option.some.inj hpp').symm
    subst epp
    refine ⟨p', hpp, ⟨by omega, by omega⟩, _, ci, p', hpp, ⟨h3, by omega⟩, _, ck, p', hpp, ⟨by omega, by omega⟩, ?_⟩
    refine OwnF.store (enc := encI) encI_len hov (by decide) (i := i.toNat) (by omega) (y := l.getD kk.toNat 0) (by simp [encI, Value.oneCell']) hpp fun u10 ho10 he10 _ => ⟨p', hpp, ⟨h3, by omega⟩, ?_⟩
    refine OwnF.store (enc := encI) encI_len ho10 (by decide) (i := kk.toNat) (by rw [List.length_set]; omega) (y := l.getD i.toNat 0) (by simp [encI, Value.oneCell']) hpp fun u12 ho12 he12 _ => ⟨⟨by omega, by omega⟩, ⟨by omega, nxS st', _, he12 _ _ (he10 _ _ vs hss) hss, by rw [List.length_set, List.length_set]; exact hll, ho12, ?_⟩, by dsimp only; omega⟩
    have hml : i.toNat < l.length := by omega
    have hkl : kk.toNat < l.length := by omega
    have esw : (l.set i.toNat (l.getD kk.toNat 0)).set kk.toNat (l.getD i.toNat 0) = swapL l i.toNat kk.toNat := by
      rw [swapL_eq hml hkl, List.getD_eq_getElem?_getD, List.getD_eq_getElem?_getD, List.getElem?_eq_getElem hml, List.getElem?_eq_getElem hkl]
      rfl
    rw [esw, ← hp]
    obtain ⟨m, hm⟩ : ∃ m, i.toNat = m + 1 := ⟨i.toNat - 1, by omega⟩
    rw [show (i - 1).toNat = m by omega, hm]
    conv => rhs; unfold permA
    rw [hkk, show i + 1 = (m : Int) + 2 by omega]
  · refine hK s v ?_
    have : i.toNat = 0 := by omega
    rw [this] at hp
    have hp' : l = permF st x.toNat := hp
    rw [hp'] at hol
    exact hol

end Go.Proofs.YtljbcihbgeiacaaGreat

/- VcRef06b -/
namespace Go.Proofs.YtljbcihbgeiacaaGreat

theorem Ints.elsef {u u' : H} {s t : Sl} {l : List Int} (h : Ints u t l) (he : Else u u' s) (hf : Far s t) : Ints u' t l := Seg.else h fun g o hg ho => he g o ho fun e => hf g e hg

theorem spec.theodoliteref06_round {u : H} {s t : Sl} {Cn L : List (Sl × List Int)} {d : Nat} {K : Sl → H → Prop} (hC : VcsAt u s Cn) (hCok : CsOk Cn d) (hL : VcsAt u t L) (hLok : ∀ c ∈ L, c.2.length = d ∧ vok c.2) (hfew : L.length ≤ 512)
    (hK : ∀ s' u' C', u.le u' → VcsAt u' s' C' → C'.map (·.2) = roundI d (L.map (·.2)) (Cn.map (·.2)) → K s' u') : C.theodoliteref06_round s t u K := by
  have hsn := hC.len
  have htn := hL.len
  have hm := hCok.many
  have hd := hCok.dim
  obtain ⟨cs, hcs⟩ : ∃ cs, cs = Cn.map (·.2) := ⟨_, rfl⟩
  obtain ⟨vs, hvs⟩ : ∃ vs, vs = L.map (·.2) := ⟨_, rfl⟩
  have hcsl : cs.length = Cn.length := by rw [hcs, List.length_map]
  have hvsl : vs.length = L.length := by rw [hvs, List.length_map]
  have hvok : ∀ v ∈ vs, vok v := fun v hv => by rw [hvs] at hv; obtain ⟨c, hc, rfl⟩ := List.mem_map.1 hv; exact (hLok c hc).2
  rw [← hcs, ← hvs] at hK
  apply vc.theodoliteref06_round
  -- whose each is
  refine ⟨fun z x w => 0 ≤ x ∧ x ≤ t.n ∧ u.le w ∧ OwnF u w 3 1 z ((((vs.take x.toNat).map fun v => (nearI cs v : Int))).flatMap encI), fun _ x _ => ((t.n : Int) - x).toNat, ⟨by omega, by omega, H.le.refl u, OwnF.nil (H.le.refl u) _ _⟩, ?_⟩
  rintro z x w ⟨x0, x1, uw, ho⟩
  have hzl : ((vs.take x.toNat).map fun v => (nearI cs v : Int)).length = x.toNat := by rw [List.length_map, List.length_take]; omega
  have hzn : z.n = x.toNat := by have := ho.ints.len; rw [hzl] at this; exact this
  refine ⟨fun hx => ?_, fun hx => ?_⟩
  · obtain ⟨p, hp, v, hv, hvm, cv, hvi⟩ := (hL.mono uw).at x0 hx
    obtain ⟨vd, vo⟩ := hLok v hvm
    have hvx : vs[x.toNat]? = some v.2 := by rw [hvs, List.getElem?_map, hv]; rfl
    refine ⟨p, hp, ⟨x0, hx⟩, v.1, cv, spec.theodoliteref06_Nearest (hC.mono uw) hCok hvi vo (by omega) fun _ _ _ _ _ => ?_⟩
    rw [← hcs]
    refine sem_push' tInts (build_int1 _) (by decide) rfl (by simp [Value.oneCell']) ho (by show z.n < _; omega) (by show (z.n + 1) * _ ≤ _; omega) fun s' u' ho' _ _ _ _ => ⟨⟨by omega, by omega⟩, ⟨by omega, by omega, ho'.le, ?_⟩, by dsimp only; omega⟩
    have : ((vs.take (x + 1).toNat).map fun v => (nearI cs v : Int)).flatMap encI = ((vs.take x.toNat).map fun v => (nearI cs v : Int)).flatMap encI ++ [.int .i64 (nearI cs v.2 : Int)] := by
      rw [show (x + 1).toNat = x.toNat + 1 by omega, List.take_add_one, hvx, List.map_append, List.flatMap_append]
      rfl
    rw [this]
    exact ho'
  have hall : vs.take x.toNat = vs := List.take_of_length_le (by omega)
  rw [hall] at ho hzl
  have hz : Ints w z (vs.map fun v => (nearI cs v : Int)) := ho.ints
  have hzt : z.n = t.n := by omega
  clear ho hzn hall hzl
  -- the new centres
  refine ⟨fun y x v => 0 ≤ x ∧ x ≤ s.n ∧ w.le v ∧ ∃ Cs : List (Sl × List Int), OwnF w v 41 1 y (Cs.flatMap fun c => encS c.1) ∧ (∀ c ∈ Cs, Ints v c.1 c.2 ∧ Far y c.1 ∧ 0 < c.2.length) ∧ Cs.map (·.2) = (roundI d vs cs).take x.toNat, fun _ x _ => ((s.n : Int) - x).toNat, ⟨by omega, by omega, H.le.refl w, [], OwnF.nil (H.le.refl w) _ _, fun c hc => (by cases hc), rfl⟩, ?_⟩
  rintro y x v ⟨x0, x1, wv', Cs, hY, hI, hCs⟩
  have hCsl : Cs.length = x.toNat := by
    have := congrArg List.length hCs
    rw [List.length_map, List.length_take, roundI_len] at this
    omega
  have hyn : y.n = x.toNat := by have := flat_n encS_len (by decide) hY.own.seg; rw [hCsl] at this; exact this
  refine ⟨fun hx => ?_, fun hx => by
    refine hK y v Cs (uw.trans wv') ⟨hY.own.seg, fun c hc => (hI c hc).1⟩ ?_
    rw [hCs, List.take_of_length_le (by rw [roundI_len]; omega)]⟩
  obtain ⟨p, hp, c, hcx, hcm, cc, hci⟩ := (hC.mono (uw.trans wv')).at x0 hx
  obtain ⟨cl, cv⟩ := hCok.each c hcm
  have hcn := hci.len
  have hcx' : cs[x.toNat]? = some c.2 := by rw [hcs, List.getElem?_map, hcx]; rfl
  have hxl : x.toNat < cs.length := by omega
  -- the push, whatever is pushed
  have push : ∀ {v2 : H} {q : Sl} {b : List Int}, v.le v2 → Ints v2 q b → Far y q → 0 < b.length → (roundI d vs cs)[x.toNat]? = some b →
      SemT Tryz.prog (Instr.buildSlice 68 1 #[(0, .slice q.a q.n q.c)]) [.one .slice] v2 fun s1 u1 => SemT Tryz.prog (Builtin.append_ #[68, 68] 68 #[.slice y.a y.n y.c, .slice s1.a s1.n s1.c]) [.one .slice] u1 fun s57 u58 => InR (x + 1) ∧ (0 ≤ x + 1 ∧ x + 1 ≤ (s.n : Int) ∧ w.le u58 ∧ ∃ Cs : List (Sl × List Int), OwnF w u58 41 1 s57 (Cs.flatMap fun c => encS c.1) ∧ (∀ c ∈ Cs, Ints u58 c.1 c.2 ∧ Far s57 c.1 ∧ 0 < c.2.length) ∧ Cs.map (·.2) = (roundI d vs cs).take (x + 1).toNat) ∧ ((s.n : Int) - (x + 1)).toNat < ((s.n : Int) - x).toNat := by
    intro v2 q b hv2 hq hf hb hr
    refine sem_push' tVecs (build_vecs1 q) (by decide) rfl (by simp [Value.oneCell']) (hY.mono hv2) (by show y.n < _; omega) (by show (y.n + 1) * _ ≤ _; omega) fun s' u' ho' hn' he' hbl _ => ⟨⟨by omega, by omega⟩, ⟨by omega, by omega, ho'.le, Cs ++ [(q, b)], ?_, fun c hc => ?_, ?_⟩, by omega⟩
    · rw [List.flatMap_append]; exact ho'
    · have far : ∀ {k : Sl} {m : List Int}, Ints v2 k m → 0 < m.length → Far y k → Far s' k := fun hk hm hfk g hg hkg => by
        rcases hbl g hg with h1 | h1
        · exact hfk g h1 hkg
        · exact ints_known hk hm hkg h1
      rcases List.mem_append.1 hc with hc | hc
      · obtain ⟨i1, i2, i3⟩ := hI c hc
        exact ⟨(i1.mono hv2).elsef he' i2, far (i1.mono hv2) i3 i2, i3⟩
      · obtain rfl := List.mem_singleton.1 hc
        exact ⟨hq.elsef he' hf, far hq hb hf, hb⟩
    · rw [List.map_append, hCs, show (x + 1).toNat = x.toNat + 1 by omega, List.take_add_one, hr]
      rfl
  refine ⟨p, hp, ⟨x0, hx⟩, c.1, cc, sem_make_ints (by omega) (by omega) fun sm v2 hS hsmn => ?_⟩
  have hd' : ((c.1.n : Int)).toNat = d := by omega
  rw [hd'] at hS
  have fYS : Far y sm := OwnF.far hY (H.le.refl v) hS
  -- the sum of its vectors
  refine ⟨fun m i w2 => 0 ≤ i ∧ i ≤ t.n ∧ m = ((mineI cs (vs.take i.toNat) x.toNat).length : Nat) ∧ ∃ S : List Int, OwnF v w2 3 1 sm (S.flatMap encI) ∧ S.length = d ∧ ∀ j, j < d → S.getD j 0 = sumC (mineI cs (vs.take i.toNat) x.toNat) j, fun _ i _ => ((t.n : Int) - i).toNat, ⟨by omega, by omega, rfl, _, hS, by simp, fun j hj => by
    rw [List.getD_eq_getElem?_getD, List.getElem?_replicate, if_pos hj]; rfl⟩, ?_⟩
  rintro m i w2 ⟨i0, i1, hmm, S, hS, hSl, hSv⟩
  have hvw : v.le w2 := hS.le
  have huw2 : u.le w2 := (uw.trans wv').trans hvw
  have hml := mineI_le cs (vs.take i.toNat) x.toNat
  rw [List.length_take] at hml
  refine ⟨fun hi => ?_, fun hi => ?_⟩
  · have hil : i.toNat < vs.length := by omega
    obtain ⟨pz, hpz, cz⟩ := (hz.mono (wv'.trans hvw)).at (x := i) i0 (by omega)
    obtain ⟨pv, hpv, vv, hvv, hvm, cvv, hvi⟩ := (hL.mono huw2).at (x := i) i0 hi
    obtain ⟨vd, vo⟩ := hLok vv hvm
    have hvn := hvi.len
    have hvx : vs[i.toNat]? = some vv.2 := by rw [hvs, List.getElem?_map, hvv]; rfl
    have eg : (vs.map fun v => (nearI cs v : Int)).getD i.toNat 0 = nearI cs vv.2 := by rw [List.getD_eq_getElem?_getD, List.getElem?_map, hvx]; rfl
    rw [eg] at cz
    refine ⟨pz, hpz, ⟨i0, by omega⟩, _, cz, fun hne => ?_, fun he => ?_⟩
    · have hno : mineI cs (vs.take (i + 1).toNat) x.toNat = mineI cs (vs.take i.toNat) x.toNat := by
        rw [show (i + 1).toNat = i.toNat + 1 by omega, mineI_succ hvx, if_neg (by omega), List.append_nil]
      exact ⟨⟨by omega, by omega⟩, ⟨by omega, by omega, by rw [hno]; exact hmm, S, hS, hSl, by rw [hno]; exact hSv⟩, by dsimp only; omega⟩
    · have hyes : mineI cs (vs.take (i + 1).toNat) x.toNat = mineI cs (vs.take i.toNat) x.toNat ++ [vv.2] := by
        rw [show (i + 1).toNat = i.toNat + 1 by omega, mineI_succ hvx, if_pos (by omega)]
      have hb1 : ∀ j, _ := fun j => sumC_bound (m := mineI cs (vs.take i.toNat) x.toNat) (fun z hz => hvok z (List.mem_of_mem_take (mineI_mem hz))) j
      refine ⟨⟨by omega, by omega⟩, fun j w3 => 0 ≤ j ∧ j ≤ d ∧ ∃ S : List Int, OwnF v w3 3 1 sm (S.flatMap encI) ∧ S.length = d ∧ ∀ a, a < d → S.getD a 0 = sumC (mineI cs (vs.take i.toNat) x.toNat) a + (if (a : Int) < j then vv.2.getD a 0 else 0), fun j _ => ((d : Int) - j).toNat, ⟨by omega, by omega, S, hS, hSl, fun a ha => by rw [if_neg (by omega), hSv a ha]; omega⟩, ?_⟩
      rintro j w3 ⟨j0, j1, S3, hS3, hS3l, hS3v⟩
      have hsn3 : sm.n = d := by have := hS3.ints.len; omega
      refine ⟨fun hj => ?_, fun hj => ?_⟩
      · obtain ⟨p1, hp1, h37⟩ := hS3.ints.at (x := j) j0 (by omega)
        have huw3 : u.le w3 := (uw.trans wv').trans hS3.le
        obtain ⟨p2, hp2, v2', hv2', hv2m, c2, hv2i⟩ := (hL.mono huw3).at (x := i) i0 hi
        obtain rfl : v2' = vv := by rw [hvv] at hv2'; exact (Option.some.inj hv2').symm
        obtain ⟨p3, hp3, h40⟩ := hv2i.at (x := j) j0 (by omega)
        have hjl : j.toNat < d := by omega
        have hv3 := hS3v j.toNat hjl
        rw [if_neg (by omega)] at hv3
        have hb2 := coord_bound vo j.toNat
        have hb3 := hb1 j.toNat
        refine ⟨p1, hp1, ⟨j0, hj⟩, p2, hp2, ⟨i0, hi⟩, _, h37, _, c2, p3, hp3, ⟨j0, by omega⟩, _, h40, ⟨by omega, by omega⟩, p1, hp1, ⟨j0, hj⟩, ?_⟩
        refine OwnF.store (enc := encI) encI_len hS3 (by decide) (i := j.toNat) (by omega) (y := S3.getD j.toNat 0 + v2'.2.getD j.toNat 0) (by simp [encI, Value.oneCell']) hp1 fun u42 hS42 _ _ => ⟨⟨by omega, by omega⟩, ⟨by omega, by omega, _, hS42, by rw [List.length_set]; exact hS3l, fun a ha => ?_⟩, by dsimp only; omega⟩
        rw [getD_set _ _ _ _ (by omega)]
        by_cases e : a = j.toNat
        · subst e
          rw [if_pos rfl, if_pos (by omega), hv3]
          omega
        · rw [if_neg e, hS3v a ha]
          by_cases e2 : (a : Int) < j
          · rw [if_pos e2, if_pos (by omega)]
          · rw [if_neg e2, if_neg (by omega)]
      · refine ⟨⟨by omega, by omega⟩, ⟨by omega, by omega, ?_, S3, hS3, hS3l, fun a ha => ?_⟩, by dsimp only; omega⟩
        · rw [hyes, List.length_append, hmm]; simp
        · rw [hyes, sumC_append, sumC_one, hS3v a ha, if_pos (by omega)]
  have hall : vs.take i.toNat = vs := List.take_of_length_le (by omega)
  rw [hall] at hmm hSv hml
  obtain ⟨p', hp', c', hcx2, _, cc', hci'⟩ := (hC.mono huw2).at x0 hx
  obtain rfl : c' = c := by rw [hcx] at hcx2; exact (Option.some.inj hcx2).symm
  have hg := roundI_get (d := d) (vs := vs) hxl
  refine ⟨p', hp', ⟨x0, hx⟩, c'.1, cc', fun hpos => ?_, fun hnp => ?_⟩
  · have hne : mineI cs vs x.toNat ≠ [] := fun h0 => by rw [h0] at hmm; simp at hmm; omega
    rw [if_neg hne] at hg
    refine ⟨fun j w3 => 0 ≤ j ∧ j ≤ d ∧ ∃ S : List Int, OwnF v w3 3 1 sm (S.flatMap encI) ∧ S.length = d ∧ ∀ a, a < d → S.getD a 0 = if (a : Int) < j then sumC (mineI cs vs x.toNat) a / m else sumC (mineI cs vs x.toNat) a, fun j _ => ((d : Int) - j).toNat, ⟨by omega, by omega, S, hS, hSl, fun a ha => by rw [if_neg (by omega), hSv a ha]⟩, ?_⟩
    rintro j w3 ⟨j0, j1, S3, hS3, hS3l, hS3v⟩
    have hsn3 : sm.n = d := by have := hS3.ints.len; omega
    refine ⟨fun hj => ?_, fun hj => ?_⟩
    · obtain ⟨p1, hp1, h50⟩ := hS3.ints.at (x := j) j0 (by omega)
      have hjl : j.toNat < d := by omega
      have hv3 := hS3v j.toNat hjl
      rw [if_neg (by omega)] at hv3
      rw [hv3] at h50
      have hb1 := sumC_bound (m := mineI cs vs x.toNat) (fun z hz => hvok z (mineI_mem hz)) j.toNat
      refine ⟨p1, hp1, ⟨j0, hj⟩, _, h50, spec.theodoliteref06_down hpos (by omega) (by omega) ⟨p1, hp1, ⟨j0, hj⟩, ?_⟩⟩
      refine OwnF.store (enc := encI) encI_len hS3 (by decide) (i := j.toNat) (by omega) (y := sumC (mineI cs vs x.toNat) j.toNat / m) (by simp [encI, Value.oneCell']) hp1 fun u42 hS42 _ _ => ⟨⟨by omega, by omega⟩, ⟨by omega, by omega, _, hS42, by rw [List.length_set]; exact hS3l, fun a ha => ?_⟩, by dsimp only; omega⟩
      rw [getD_set _ _ _ _ (by omega)]
      by_cases e : a = j.toNat
      · subst e
        rw [if_pos rfl, if_pos (by omega)]
      · rw [if_neg e, hS3v a ha]
        by_cases e2 : (a : Int) < j
        · rw [if_pos e2, if_pos (by omega)]
        · rw [if_neg e2, if_neg (by omega)]
    · have hSm : S3 = meanI (mineI cs vs x.toNat) d := by
        refine ext_getD (by rw [hS3l]; simp [meanI]) fun a ha => ?_
        rw [hS3v a (by omega), if_pos (by omega)]
        unfold meanI
        rw [List.getD_eq_getElem?_getD, List.getElem?_map, List.getElem?_range (by omega), hmm]
        rfl
      rw [hSm] at hS3 hS3l
      exact push hS3.le hS3.ints fYS (by omega) hg
  · have hnil : mineI cs vs x.toNat = [] := List.eq_nil_of_length_eq_zero (by omega)
    rw [if_pos hnil, List.getD_eq_getElem?_getD, hcx'] at hg
    refine push hvw hci' (fun g hgy hgc => ?_) (by omega) hg
    have h1 := hY.fresh g hgy
    exact ints_known ((hC.mono uw).ints c' hcm) (by omega) hgc h1

theorem iterI_ok' {d : Nat} {vs : List (List Int)} (hv : ∀ v ∈ vs, vok v) (hd : d ≤ 64) : ∀ (n : Nat) (cs : List (List Int)), (∀ c ∈ cs, c.length = d ∧ vok c) → (∀ c ∈ iterI d vs n cs, c.length = d ∧ vok c) ∧ (iterI d vs n cs).length = cs.length := by
  intro n
  induction n with
  | zero => intro cs h; exact ⟨h, rfl⟩
  | succ n ih =>
    intro cs h
    obtain ⟨h1, h2⟩ := ih cs h
    exact ⟨roundI_ok hv hd h1, by show (roundI _ _ _).length = _; rw [roundI_len, h2]⟩

theorem spec.theodoliteref06_Train {u : H} {s : Sl} {L : List (Sl × List Int)} {d : Nat} {k rounds seed : Int} {K : Sl → Int → H → Prop} (h : VcsAt u s L) (hok : ∀ c ∈ L, c.2.length = d ∧ vok c.2) (hd : 1 ≤ d ∧ d ≤ 64) (hfew : L.length ≤ 512) (hk : 1 ≤ k ∧ k ≤ 64) (hkl : k ≤ L.length) (hr : 0 ≤ rounds ∧ rounds ≤ 20)
    (hK : ∀ s' u' cs, u.le u' → VcsAt u' s' cs → cs.map (·.2) = trainI seed k.toNat rounds.toNat d (L.map (·.2)) → K s' 0 u') : C.theodoliteref06_Train s k rounds seed u K := by
  have hn := h.len
  obtain ⟨vs, hvs⟩ : ∃ vs, vs = L.map (·.2) := ⟨_, rfl⟩
  have hvl : vs.length = L.length := by rw [hvs, List.length_map]
  rw [← hvs] at hK
  apply vc.theodoliteref06_Train
  refine spec.theodoliteref06_TrainErr h hok hd hfew hk hkl hr ⟨fun hx => absurd rfl hx, fun _ => ?_⟩
  intro n2 hn2
  have l2 := H.le_ins (u := u) (b := n2) (src6 seed) hn2
  refine spec.ref04_Perm (st := seed) (ub := u) (H.ins_same _ _ _) l2 hn2 (by omega) (by omega) fun s3 u5 hP => ?_
  have hPi := hP.ints
  rw [show ((s.n : Nat) : Int).toNat = vs.length by omega] at hPi
  have hPn := hPi.len
  rw [permF_len] at hPn
  have l5 := hP.le
  have h5 := h.mono l5
  clear hP
  have hvok : ∀ v ∈ vs, v.length = d ∧ vok v := fun v hv => by rw [hvs] at hv; obtain ⟨c, hc, rfl⟩ := List.mem_map.1 hv; exact hok c hc
  have hok0 : ∀ c ∈ startI seed k.toNat vs, c.length = d ∧ vok c := fun c hc => by
    unfold startI at hc
    obtain ⟨i, hi, rfl⟩ := List.mem_map.1 hc
    obtain ⟨i0, i1⟩ := permF_mem (List.mem_of_mem_take hi)
    have : vs.getD i.toNat [] ∈ vs := by
      rw [List.getD_eq_getElem?_getD, List.getElem?_eq_getElem (by omega)]
      exact List.getElem_mem _
    exact hvok _ this
  refine ⟨fun y x w => 0 ≤ x ∧ x ≤ k ∧ u5.le w ∧ ∃ Cs : List (Sl × List Int), OwnF u5 w 41 1 y (Cs.flatMap fun c => encS c.1) ∧ (∀ c ∈ Cs, Ints u5 c.1 c.2) ∧ Cs.map (·.2) = (startI seed k.toNat vs).take x.toNat, fun _ x _ => (k - x).toNat, ⟨by omega, by omega, H.le.refl _, [], OwnF.nil (H.le.refl _) _ _, fun c hc => (by cases hc), rfl⟩, ?_⟩
  rintro y x w ⟨x0, x1, lw, Cs, hY, hI, hCs⟩
  have hCsl : Cs.length = x.toNat := by
    have := congrArg List.length hCs
    rw [List.length_map, List.length_take, startI_len (by omega)] at this
    omega
  have hyn : y.n = x.toNat := by have := flat_n encS_len (by decide) hY.own.seg; rw [hCsl] at this; exact this
  refine ⟨fun hx => ?_, fun hx => ?_⟩
  · obtain ⟨pp, hpp, hcx⟩ := (hPi.mono lw).at (x := x) x0 (by omega)
    have hxl : x.toNat < (permF seed vs.length).length := by rw [permF_len]; omega
    obtain ⟨z, hz⟩ : ∃ z, (permF seed vs.length)[x.toNat]? = some z := ⟨_, List.getElem?_eq_getElem hxl⟩
    obtain ⟨z0, z1⟩ := permF_mem (List.mem_of_getElem? hz)
    have eg : (permF seed vs.length).getD x.toNat 0 = z := by rw [List.getD_eq_getElem?_getD, hz]; rfl
    rw [eg] at hcx
    obtain ⟨q, hq, c, hc, hcm, cz, hci⟩ := (h5.mono lw).at (x := z) z0 (by omega)
    have evs : vs.getD z.toNat [] = c.2 := by rw [hvs, List.getD_eq_getElem?_getD, List.getElem?_map, hc]; rfl
    have hst := startI_get (k := k.toNat) (show x.toNat < k.toNat by omega) hz
    rw [evs] at hst
    refine ⟨pp, hpp, ⟨x0, by omega⟩, z, hcx, q, hq, ⟨z0, by omega⟩, c.1, cz, ?_⟩
    refine sem_push' tVecs (build_vecs1 c.1) (by decide) rfl (by simp [Value.oneCell']) hY (by show y.n < _; omega) (by show (y.n + 1) * _ ≤ _; omega) fun s' u' ho' _ _ _ _ => ⟨⟨by omega, by omega⟩, ⟨by omega, by omega, ho'.le, Cs ++ [(c.1, c.2)], ?_, fun c' hc' => ?_, ?_⟩, by dsimp only; omega⟩
    · rw [List.flatMap_append]; exact ho'
    · rcases List.mem_append.1 hc' with hc' | hc'
      · exact hI c' hc'
      · obtain rfl := List.mem_singleton.1 hc'
        exact h5.ints c hcm
    · rw [List.map_append, hCs, show (x + 1).toNat = x.toNat + 1 by omega, List.take_add_one, hst]
      rfl
  · rw [List.take_of_length_le (by rw [startI_len (by omega)]; omega)] at hCs
    refine ⟨fun z x w => 0 ≤ x ∧ x ≤ rounds ∧ u5.le w ∧ ∃ Cs, VcsAt w z Cs ∧ Cs.map (·.2) = iterI d vs x.toNat (startI seed k.toNat vs), fun _ x _ => (rounds - x).toNat, ⟨by omega, by omega, lw, Cs, ⟨hY.own.seg, fun c hc => (hI c hc).mono lw⟩, hCs⟩, ?_⟩
    rintro z x w ⟨x0, x1, lw, Cs, hV, hCs⟩
    obtain ⟨k1, k2⟩ := iterI_ok' (fun v hv => (hvok v hv).2) hd.2 x.toNat _ hok0
    rw [startI_len (by omega)] at k2
    have hCl : Cs.length = k.toNat := by have := congrArg List.length hCs; rw [List.length_map, k2] at this; exact this
    refine ⟨fun hx => ?_, fun hx => hK z w Cs (l5.trans lw) hV ?_⟩
    · refine spec.theodoliteref06_round (d := d) hV ⟨by omega, by omega, fun c hc => ?_⟩ (h5.mono lw) hok hfew fun s' u' C' l' hC' he => ⟨⟨by omega, by omega⟩, ⟨by omega, by omega, lw.trans l', C', hC', ?_⟩, by dsimp only; omega⟩
      · have := k1 c.2 (by rw [← hCs]; exact List.mem_map_of_mem hc)
        exact ⟨by omega, this.2⟩
      · rw [he, hCs, ← hvs, show (x + 1).toNat = x.toNat + 1 by omega]
        rfl
    · rw [hCs, show x.toNat = rounds.toNat by omega]
      rfl

end Go.Proofs.YtljbcihbgeiacaaGreat

/- VcIvLs -/
namespace Go.Proofs.YtljbcihbgeiacaaGreat

/-- One vector more, made of late. -/
theorem VcsO.push {u0 u u1 : H} {s t : Sl} {cs : List (Sl × List Int)} {v : List Int} (h : VcsO u0 u s cs) (ht : OwnF u u1 3 1 t (v.flatMap encI)) (hn : s.n ≤ 1000000) {K : Sl → H → Prop}
    (hK : ∀ s' u', VcsO u0 u' s' (cs ++ [(t, v)]) → K s' u') :
    SemT Tryz.prog (Instr.buildSlice 68 1 #[(0, .slice t.a t.n t.c)]) [.one .slice] u1 fun s1 u2 => SemT Tryz.prog (Builtin.append_ #[68, 68] 68 #[.slice s.a s.n s.c, .slice s1.a s1.n s1.c]) [.one .slice] u2 K := by
  have h1 := h.mono ht.le
  have hu0 : u0.le u := h.own.le
  have fart : ∀ {e k : Nat} {x : Sl} {xs : List Value}, OwnF u0 u e k x xs → Far x t := fun hx => OwnF.far hx (H.le.refl u) ht
  refine sem_push' tVecs (build_vecs1 t) (by decide) rfl (by simp [Value.oneCell']) h1.own (by omega) (by omega) fun s' u' ho' _ he' hbl _ => hK s' u' ⟨?_, fun z hz => ?_, fun z hz => ?_, ?_⟩
  · rw [List.flatMap_append]; exact ho'
  · rcases List.mem_append.1 hz with hz | hz
    · exact OwnF.else (e := 0) (h1.inner z hz) he' h.own.fresh (h.far z hz)
    · obtain rfl := List.mem_singleton.1 hz
      exact OwnF.else (e := 0) (ht.weaken hu0) he' h.own.fresh (fart h.own)
  · have far : ∀ {k : Sl} {xs : List Value}, OwnF u0 u1 3 1 k xs → Far s k → Far s' k := fun hk hf g hg hkg => by
      rcases hbl g hg with h2 | h2
      · exact hf g h2 hkg
      · exact own_known hk hkg h2
    rcases List.mem_append.1 hz with hz | hz
    · exact far (h1.inner z hz) (h.far z hz)
    · obtain rfl := List.mem_singleton.1 hz
      exact far (ht.weaken hu0) (fart h.own)
  · rw [List.pairwise_append]
    refine ⟨h.apart, List.pairwise_singleton _ _, fun a ha b hb => ?_⟩
    obtain rfl := List.mem_singleton.1 hb
    exact fart (h.inner a ha)

/-- The document's centres. -/
theorem spec.theodolitelaw09_centres {u : H} {s : Sl} {l : List Rw} {dim A B seed : Int} {K : Sl → H → Prop} (hs : Rws u s l) (hl : Rok l dim) (hA : 1 ≤ A ∧ A ≤ 64) (hB : 0 ≤ B ∧ B ≤ 20)
    (hK : ∀ s' u' cs (P : List Pr), u.le u' → VcsAt u' s' cs → P.Perm (l.map Rw.pr) → (P.Pairwise fun x y => x.1 < y.1) → cs.map (·.2) = Iv.centI seed A B dim.toNat (P.map (·.2)) → K s' u') : C.theodolitelaw09_centres s dim A B seed u K := by
  have hd := hl.dim
  have h512 := hl.len
  apply vc.theodolitelaw09_centres
  refine spec.theodoliteref05_Of hs hl fun n u1 L hn l1 hT hp => ?_
  have hLl : L.length = l.length := by simpa using hp.length_eq
  obtain ⟨ts, v, c, hv, _, hR0⟩ := hT.ex
  have hR := hR0.mono hv
  have htn := hR.len
  have hmem : ∀ r ∈ L, (r.v.length : Int) = dim ∧ vok r.v := fun r hr => by
    obtain ⟨z, hz, e⟩ := List.mem_map.1 (hp.mem_iff.1 (List.mem_map_of_mem (f := Rw.pr) hr))
    have e2 : z.v = r.v := congrArg Prod.snd e
    rw [← e2]
    exact hl.v z hz
  refine ⟨fun y x w => 0 ≤ x ∧ x ≤ ts.n ∧ u1.le w ∧ ∃ Cs : List (Sl × List Int), OwnF u1 w 41 1 y (Cs.flatMap fun c => encS c.1) ∧ Cs = (L.take x.toNat).map fun r => (r.s, r.v), fun _ x _ => ((ts.n : Int) - x).toNat, ⟨by omega, by omega, H.le.refl _, [], OwnF.nil (H.le.refl _) _ _, rfl⟩, ?_⟩
  rintro y x w ⟨x0, x1, lw, Cs, hY, hCs⟩
  have hCsl : Cs.length = x.toNat := by rw [hCs, List.length_map, List.length_take]; omega
  have hyn : y.n = x.toNat := by have := flat_n encS_len (by decide) hY.own.seg; rw [hCsl] at this; exact this
  have c1 : w.cell? ((⟨n, 0, none⟩ : Addr).add 1) = some (.slice ts.a ts.n ts.c) := H.cell?_of (lw _ _ c) 1
  refine ⟨_, rfl, ts, c1, fun hx => ?_, fun hx => ?_⟩
  · obtain ⟨p, hp', r, hr, _, d1, _⟩ := (hR.mono lw).at x0 hx
    refine ⟨_, rfl, ts, c1, p, hp', ⟨x0, hx⟩, r.s, d1, ?_⟩
    refine sem_push' tVecs (build_vecs1 r.s) (by decide) rfl (by simp [Value.oneCell']) hY (by show y.n < _; omega) (by show (y.n + 1) * _ ≤ _; omega) fun s' u' ho' _ _ _ _ => ⟨⟨by omega, by omega⟩, ⟨by omega, by omega, ho'.le, Cs ++ [(r.s, r.v)], ?_, ?_⟩, by dsimp only; omega⟩
    · rw [List.flatMap_append]; exact ho'
    · rw [hCs, show (x + 1).toNat = x.toNat + 1 by omega, List.take_add_one, hr, List.map_append]
      rfl
  · rw [List.take_of_length_le (by omega)] at hCs
    have hV : VcsAt w y Cs := ⟨hY.own.seg, fun c hc => by
      rw [hCs] at hc
      obtain ⟨r, hr, rfl⟩ := List.mem_map.1 hc
      exact (hR.2 r hr).mono lw⟩
    have ev : Cs.map (·.2) = (L.map Rw.pr).map (·.2) := by rw [hCs, List.map_map, List.map_map]; rfl
    refine ⟨fun h0 => ?_, fun h0 => ?_⟩
    · have h0' : y.n = 0 := by omega
      refine sem_make_ints (by omega) (by omega) fun s17 u18 ho17 _ => ?_
      refine sem_build (build_vecs1 s17) fun g hg => ?_
      have m := OwnF.make (k := 1) (H.le.refl u18) hg (cells := [Value.slice s17.a s17.n s17.c].toArray) (e := 41) (n := 1) (by omega) rfl
      refine hK _ _ [(s17, List.replicate dim.toNat 0)] (L.map Rw.pr) ((l1.trans (lw.trans ho17.le)).trans m.le) ⟨m.own.seg, fun c hc => ?_⟩ hp hT.rise ?_
      · obtain rfl := List.mem_singleton.1 hc
        exact ho17.ints.mono m.le
      · have : L = [] := List.eq_nil_of_length_eq_zero (by omega)
        rw [this]
        rfl
    · have hne : Cs.map (·.2) ≠ [] := fun e => by
        have := congrArg List.length e
        rw [List.length_map] at this
        simp only [List.length_nil] at this
        exact h0 (by show ((y.n : Nat) : Int) = 0; omega)
      have hvl : (Cs.map (·.2)).length = y.n := by rw [List.length_map]; omega
      have hyp : 0 < y.n := by have := List.length_pos_iff.2 hne; omega
      obtain ⟨k, hk⟩ : ∃ k, k = (if (y.n : Int) < A then (y.n : Int) else A) := ⟨_, rfl⟩
      have hkb : 1 ≤ k ∧ k ≤ 64 ∧ k ≤ y.n := by rw [hk]; split <;> omega
      show C.theodoliteref06_Train y (if (y.n : Int) < A then (y.n : Int) else A) B seed w _
      rw [← hk]
      refine spec.theodoliteref06_Train (d := dim.toNat) hV (fun c hc => ?_) (by omega) (by omega) ⟨hkb.1, hkb.2.1⟩ (by omega) hB fun s' u' cs l' hV' he => hK s' u' cs (L.map Rw.pr) (l1.trans (lw.trans l')) hV' hp hT.rise ?_
      · rw [hCs] at hc
        obtain ⟨r, hr, rfl⟩ := List.mem_map.1 hc
        have := hmem r hr
        exact ⟨by show r.v.length = _; omega, this.2⟩
      · rw [he, ← ev]
        unfold Iv.centI
        rw [if_neg hne, hvl, ← hk]

end Go.Proofs.YtljbcihbgeiacaaGreat

/- VcLawLs -/
namespace Go.Proofs.YtljbcihbgeiacaaGreat

theorem ixErr_way {l : List Rw} {d A B : Int} (h : ixErr l d A B = 0) : (1 ≤ A ∧ A ≤ 64) ∧ 0 ≤ B ∧ B ≤ 20 := by
  unfold ixErr Iv.ixErr at h
  split at h
  · rename_i h1; exact absurd h h1
  · split at h
    · cases h
    · omega

end Go.Proofs.YtljbcihbgeiacaaGreat

/- VcSymP -/
namespace Go.Proofs.YtljbcihbgeiacaaGreat

/-- The order. -/
def Rl (d : Int → Int) (x y : Int) : Prop := d x < d y ∨ (d x = d y ∧ x < y)
theorem Rl.trans {d : Int → Int} {x y z : Int} (h : Rl d x y) (k : Rl d y z) : Rl d x z := by unfold Rl at *; omega
theorem Rl.irr {d : Int → Int} {x : Int} (h : Rl d x x) : False := by unfold Rl at h; omega
theorem Rl.lt {d : Int → Int} {x y : Int} (h : d x < d y) : Rl d x y := .inl h
theorem Rl.le {d : Int → Int} {x y : Int} (h : d x ≤ d y) (k : x < y) : Rl d x y := by unfold Rl; omega

def SrtI (d f : Int → Int) (a b : Int) : Prop := ∀ i j, a ≤ i → i < j → j < b → Rl d (f i) (f j)
/-- What stands in a part comes from that part. -/
def Mv (f g : Int → Int) (a b : Int) : Prop := (∀ k, k < a ∨ b ≤ k → g k = f k) ∧ ∀ k, a ≤ k → k < b → ∃ k', a ≤ k' ∧ k' < b ∧ g k = f k'

theorem Mv.refl (f : Int → Int) (a b : Int) : Mv f f a b := ⟨fun _ _ => rfl, fun k h1 h2 => ⟨k, h1, h2, rfl⟩⟩
theorem Mv.trans {f g h : Int → Int} {a b : Int} (x : Mv f g a b) (y : Mv g h a b) : Mv f h a b :=
  ⟨fun k hk => (y.1 k hk).trans (x.1 k hk), fun k h1 h2 => by
    obtain ⟨k1, e1, e2, e3⟩ := y.2 k h1 h2
    obtain ⟨k2, e4, e5, e6⟩ := x.2 k1 e1 e2
    exact ⟨k2, e4, e5, e3.trans e6⟩⟩
theorem Mv.wide {f g : Int → Int} {a b a' b' : Int} (x : Mv f g a b) (h1 : a' ≤ a) (h2 : b ≤ b') : Mv f g a' b' :=
  ⟨fun k hk => x.1 k (by omega), fun k h3 h4 => by
    by_cases h : a ≤ k ∧ k < b
    · obtain ⟨k1, e1, e2, e3⟩ := x.2 k h.1 h.2
      exact ⟨k1, by omega, by omega, e3⟩
    · exact ⟨k, h3, h4, x.1 k (by omega)⟩⟩
theorem SrtI.sub {d f : Int → Int} {a b a' b' : Int} (h : SrtI d f a b) (h1 : a ≤ a') (h2 : b' ≤ b) : SrtI d f a' b' := fun i j e1 e2 e3 => h i j (by omega) e2 (by omega)
theorem SrtI.same {d f g : Int → Int} {a b : Int} (h : SrtI d f a b) (e : ∀ k, a ≤ k → k < b → g k = f k) : SrtI d g a b := fun i j e1 e2 e3 => by rw [e i e1 (by omega), e j (by omega) e3]; exact h i j e1 e2 e3

def swp (f : Int → Int) (x y : Int) : Int → Int := fun k => if k = x then f y else if k = y then f x else f k
def rot (f : Int → Int) (a m b : Int) : Int → Int := fun k => if k < a ∨ b ≤ k then f k else if k < a + (b - m) then f (k + (m - a)) else f (k - (b - m))
def sws (f : Int → Int) (a b n : Int) : Int → Int := fun k => if a ≤ k ∧ k < a + n then f (k - a + b) else if b ≤ k ∧ k < b + n then f (k - b + a) else f k

theorem swp_mv {f : Int → Int} {x y a b : Int} (h1 : a ≤ x) (h2 : x < b) (h3 : a ≤ y) (h4 : y < b) : Mv f (swp f x y) a b := by
  refine ⟨fun k hk => ?_, fun k k1 k2 => ?_⟩
  · unfold swp
    rw [if_neg (by omega), if_neg (by omega)]
  · unfold swp
    by_cases e1 : k = x
    · rw [if_pos e1]; exact ⟨y, h3, h4, rfl⟩
    · rw [if_neg e1]
      by_cases e2 : k = y
      · rw [if_pos e2]; exact ⟨x, h1, h2, rfl⟩
      · rw [if_neg e2]; exact ⟨k, k1, k2, rfl⟩

theorem sws_zero (f : Int → Int) (a b : Int) : sws f a b 0 = f := by
  funext k
  unfold sws
  rw [if_neg (by omega), if_neg (by omega)]

theorem sws_step {f : Int → Int} {a b n i : Int} (h : a + n ≤ b) (i0 : 0 ≤ i) (i1 : i < n) : swp (sws f a b i) (a + i) (b + i) = sws f a b (i + 1) := by
  funext k
  unfold swp sws
  try dsimp only
  repeat' split
  all_goals first
    | omega
    | rfl
    | (congr 1; omega)

theorem rot_last {f : Int → Int} {m i : Int} (h : 0 < i) : sws f (m - i) m i = rot f (m - i) m (m + i) := by
  funext k
  unfold rot sws
  try dsimp only
  repeat' split
  all_goals first
    | omega
    | rfl
    | (congr 1; omega)

theorem rot_left {f : Int → Int} {m i j : Int} (h : j < i) (hj : 0 < j) : rot (sws f (m - i) m j) (m - (i - j)) m (m + j) = rot f (m - i) m (m + j) := by
  funext k
  unfold rot sws
  try dsimp only
  repeat' split
  all_goals first
    | omega
    | rfl
    | (congr 1; omega)

theorem rot_right {f : Int → Int} {m i j : Int} (h : i < j) (hi : 0 < i) : rot (sws f (m - i) (m + j - i) i) (m - i) m (m + (j - i)) = rot f (m - i) m (m + j) := by
  funext k
  unfold rot sws
  try dsimp only
  repeat' split
  all_goals first
    | omega
    | rfl
    | (congr 1; omega)

theorem rot_mv {f : Int → Int} {a m b : Int} (h1 : a ≤ m) (h2 : m ≤ b) : Mv f (rot f a m b) a b := by
  refine ⟨fun k hk => ?_, fun k k1 k2 => ?_⟩
  · unfold rot
    rw [if_pos hk]
  · unfold rot
    rw [if_neg (by omega)]
    by_cases e : k < a + (b - m)
    · rw [if_pos e]; exact ⟨k + (m - a), by omega, by omega, rfl⟩
    · rw [if_neg e]; exact ⟨k - (b - m), by omega, by omega, rfl⟩

/-- One goes up, the others one down. -/
def shl (f : Int → Int) (a k : Int) : Int → Int := fun j => if a ≤ j ∧ j < k then f (j + 1) else if j = k then f a else f j
def shr (f : Int → Int) (m k : Int) : Int → Int := fun j => if k < j ∧ j ≤ m then f (j - 1) else if j = k then f m else f j

theorem shl_zero (f : Int → Int) (a : Int) : shl f a a = f := by
  funext j
  unfold shl
  rw [if_neg (by omega)]
  split
  · rename_i e; rw [e]
  · rfl
theorem shr_zero (f : Int → Int) (m : Int) : shr f m m = f := by
  funext j
  unfold shr
  rw [if_neg (by omega)]
  split
  · rename_i e; rw [e]
  · rfl
theorem shl_step {f : Int → Int} {a k : Int} (h : a ≤ k) : swp (shl f a k) k (k + 1) = shl f a (k + 1) := by
  funext j
  unfold swp shl
  try dsimp only
  repeat' split
  all_goals first
    | omega
    | rfl
    | (congr 1; omega)
theorem shr_step {f : Int → Int} {m k : Int} (h : k ≤ m) : swp (shr f m k) k (k - 1) = shr f m (k - 1) := by
  funext j
  unfold swp shr
  try dsimp only
  repeat' split
  all_goals first
    | omega
    | rfl
    | (congr 1; omega)
theorem shl_mv {f : Int → Int} {a k b : Int} (h1 : a ≤ k) (h2 : k < b) : Mv f (shl f a k) a b := by
  refine ⟨fun j hj => ?_, fun j j1 j2 => ?_⟩
  · unfold shl
    rw [if_neg (by omega), if_neg (by omega)]
  · unfold shl
    split
    · exact ⟨j + 1, by omega, by omega, rfl⟩
    · split
      · exact ⟨a, by omega, by omega, rfl⟩
      · exact ⟨j, j1, j2, rfl⟩
theorem shr_mv {f : Int → Int} {a m k b : Int} (h1 : a ≤ k) (h2 : k ≤ m) (h3 : m < b) : Mv f (shr f m k) a b := by
  refine ⟨fun j hj => ?_, fun j j1 j2 => ?_⟩
  · unfold shr
    rw [if_neg (by omega), if_neg (by omega)]
  · unfold shr
    split
    · exact ⟨j - 1, by omega, by omega, rfl⟩
    · split
      · exact ⟨m, by omega, by omega, rfl⟩
      · exact ⟨j, j1, j2, rfl⟩

/-- One of the left comes into its place among the right. -/
theorem srt_left {d f : Int → Int} {a b i t : Int} (hs : SrtI d f (a + 1) b) (h1 : a + 1 ≤ i) (h2 : i ≤ b) (hl : f a < t) (hr : ∀ k, a + 1 ≤ k → k < b → t ≤ f k) (e1 : a + 1 < i → d (f (i - 1)) < d (f a)) (e2 : i < b → d (f a) ≤ d (f i)) : SrtI d (shl f a (i - 1)) a b := by
  have lo : ∀ p, a + 1 ≤ p → p ≤ i - 1 → Rl d (f p) (f a) := fun p p1 p2 => by
    have z := Rl.lt (e1 (by omega))
    by_cases e : p = i - 1
    · rw [e]; exact z
    · exact (hs p (i - 1) p1 (by omega) (by omega)).trans z
  have hi : ∀ p, i ≤ p → p < b → Rl d (f a) (f p) := fun p p1 p2 => by
    have z := Rl.le (e2 (by omega)) (show f a < f i by have := hr i (by omega) (by omega); omega)
    by_cases e : p = i
    · rw [e]; exact z
    · exact z.trans (hs i p (by omega) (by omega) p2)
  intro p q p1 pq q1
  unfold shl
  by_cases c1 : p < i - 1
  · rw [if_pos (show a ≤ p ∧ p < i - 1 by omega)]
    by_cases c2 : q < i - 1
    · rw [if_pos (show a ≤ q ∧ q < i - 1 by omega)]
      exact hs _ _ (by omega) (by omega) (by omega)
    · rw [if_neg (show ¬ (a ≤ q ∧ q < i - 1) by omega)]
      by_cases c3 : q = i - 1
      · rw [if_pos c3]; exact lo _ (by omega) (by omega)
      · rw [if_neg c3]; exact hs _ _ (by omega) (by omega) q1
  · rw [if_neg (show ¬ (a ≤ p ∧ p < i - 1) by omega), if_neg (show ¬ (a ≤ q ∧ q < i - 1) by omega), if_neg (show ¬ q = i - 1 by omega)]
    by_cases c3 : p = i - 1
    · rw [if_pos c3]; exact hi _ (by omega) q1
    · rw [if_neg c3]; exact hs _ _ (by omega) pq q1

theorem srt_right {d f : Int → Int} {a m i t : Int} (hs : SrtI d f a m) (h1 : a ≤ i) (h2 : i ≤ m) (hr : t ≤ f m) (hl : ∀ k, a ≤ k → k < m → f k < t) (e1 : a < i → d (f (i - 1)) ≤ d (f m)) (e2 : i < m → d (f m) < d (f i)) : SrtI d (shr f m i) a (m + 1) := by
  have lo : ∀ p, a ≤ p → p < i → Rl d (f p) (f m) := fun p p1 p2 => by
    have z := Rl.le (e1 (by omega)) (show f (i - 1) < f m by have := hl (i - 1) (by omega) (by omega); omega)
    by_cases e : p = i - 1
    · rw [e]; exact z
    · exact (hs p (i - 1) p1 (by omega) (by omega)).trans z
  have hi : ∀ p, i ≤ p → p < m → Rl d (f m) (f p) := fun p p1 p2 => by
    have z := Rl.lt (e2 (by omega))
    by_cases e : p = i
    · rw [e]; exact z
    · exact z.trans (hs i p (by omega) (by omega) p2)
  intro p q p1 pq q1
  unfold shr
  by_cases c1 : i < p
  · rw [if_pos (show i < p ∧ p ≤ m by omega), if_pos (show i < q ∧ q ≤ m by omega)]
    exact hs _ _ (by omega) (by omega) (by omega)
  · rw [if_neg (show ¬ (i < p ∧ p ≤ m) by omega)]
    by_cases c3 : p = i
    · rw [if_pos c3, if_pos (show i < q ∧ q ≤ m by omega)]
      exact hi _ (by omega) (by omega)
    · rw [if_neg c3]
      by_cases c2 : i < q
      · rw [if_pos (show i < q ∧ q ≤ m by omega)]
        exact hs _ _ p1 (by omega) (by omega)
      · rw [if_neg (show ¬ (i < q ∧ q ≤ m) by omega)]
        by_cases c4 : q = i
        · rw [if_pos c4]; exact lo _ p1 (by omega)
        · rw [if_neg c4]; exact hs _ _ p1 pq (by omega)

/-- Behind the turn: two merges are left, all of the first before all of the second. -/
theorem rot_parts {d f : Int → Int} {a m b st en mid t : Int} (hx : SrtI d f a m) (hy : SrtI d f m b) (h1 : a ≤ st) (h2 : st ≤ m) (h3 : m ≤ en) (h4 : en ≤ b) (hmid : mid = st + (en - m)) (hl : ∀ k, a ≤ k → k < m → f k < t) (hr : ∀ k, m ≤ k → k < b → t ≤ f k)
    (e1 : a < st → en < b → d (f (st - 1)) ≤ d (f en)) (e2 : st < m → m < en → d (f (en - 1)) < d (f st)) :
    SrtI d (rot f st m en) a st ∧ SrtI d (rot f st m en) st mid ∧ SrtI d (rot f st m en) mid en ∧ SrtI d (rot f st m en) en b ∧ (∀ k, a ≤ k → k < st → rot f st m en k < t) ∧ (∀ k, st ≤ k → k < mid → t ≤ rot f st m en k) ∧ (∀ k, mid ≤ k → k < en → rot f st m en k < t) ∧ (∀ k, en ≤ k → k < b → t ≤ rot f st m en k) ∧
      ∀ p q, a ≤ p → p < mid → mid ≤ q → q < b → Rl d (rot f st m en p) (rot f st m en q) := by
  have r1 : ∀ k, k < st → rot f st m en k = f k := fun k hk => by unfold rot; rw [if_pos (by omega)]
  have r2 : ∀ k, st ≤ k → k < mid → rot f st m en k = f (k + (m - st)) := fun k k1 k2 => by unfold rot; rw [if_neg (by omega), if_pos (by omega)]
  have r3 : ∀ k, mid ≤ k → k < en → rot f st m en k = f (k - (en - m)) := fun k k1 k2 => by unfold rot; rw [if_neg (by omega), if_neg (by omega)]
  have r4 : ∀ k, en ≤ k → rot f st m en k = f k := fun k hk => by unfold rot; rw [if_pos (by omega)]
  refine ⟨fun i j i1 ij j1 => ?_, fun i j i1 ij j1 => ?_, fun i j i1 ij j1 => ?_, fun i j i1 ij j1 => ?_, fun k k1 k2 => ?_, fun k k1 k2 => ?_, fun k k1 k2 => ?_, fun k k1 k2 => ?_, fun p q p1 p2 q1 q2 => ?_⟩
  · rw [r1 i (by omega), r1 j j1]; exact hx i j i1 ij (by omega)
  · rw [r2 i i1 (by omega), r2 j (by omega) j1]; exact hy _ _ (by omega) (by omega) (by omega)
  · rw [r3 i i1 (by omega), r3 j (by omega) j1]; exact hx _ _ (by omega) (by omega) (by omega)
  · rw [r4 i i1, r4 j (by omega)]; exact hy i j (by omega) ij j1
  · rw [r1 k k2]; exact hl k k1 (by omega)
  · rw [r2 k k1 k2]; exact hr _ (by omega) (by omega)
  · rw [r3 k k1 k2]; exact hl _ (by omega) (by omega)
  · rw [r4 k k1]; exact hr k (by omega) k2
  · by_cases c1 : p < st
    · rw [r1 p c1]
      by_cases c2 : q < en
      · rw [r3 q q1 c2]; exact hx _ _ p1 (by omega) (by omega)
      · rw [r4 q (by omega)]
        have z : Rl d (f (st - 1)) (f en) := Rl.le (e1 (by omega) (by omega)) (by have := hl (st - 1) (by omega) (by omega); have := hr en h3 (by omega); omega)
        have z1 : Rl d (f p) (f en) := by
          by_cases e : p = st - 1
          · rw [e]; exact z
          · exact (hx p (st - 1) p1 (by omega) (by omega)).trans z
        by_cases e : q = en
        · rw [e]; exact z1
        · exact z1.trans (hy en q h3 (by omega) q2)
    · rw [r2 p (by omega) p2]
      by_cases c2 : q < en
      · rw [r3 q q1 c2]
        have z : Rl d (f (en - 1)) (f st) := Rl.lt (e2 (by omega) (by omega))
        have z1 : Rl d (f (p + (m - st))) (f st) := by
          by_cases e : p + (m - st) = en - 1
          · rw [e]; exact z
          · exact (hy _ (en - 1) (by omega) (by omega) (by omega)).trans z
        by_cases e : q - (en - m) = st
        · rw [e]; exact z1
        · exact z1.trans (hx st _ h1 (by omega) (by omega))
      · rw [r4 q (by omega)]; exact hy _ _ (by omega) (by omega) q2

/-- Two sorted parts, one before the other. -/
theorem srt_join {d f : Int → Int} {a m b : Int} (h1 : SrtI d f a m) (h2 : SrtI d f m b) (h3 : ∀ p q, a ≤ p → p < m → m ≤ q → q < b → Rl d (f p) (f q)) : SrtI d f a b := fun i j i1 ij j1 => by
  by_cases c1 : j < m
  · exact h1 i j i1 ij c1
  · by_cases c2 : i < m
    · exact h3 i j i1 c2 (by omega) j1
    · exact h2 i j (by omega) ij j1

/-- A sorted block whose numbers are its places. -/
def BOk (d w : Int → Int) (a b : Int) : Prop := SrtI d w a b ∧ ∀ i, a ≤ i → i < b → a ≤ w i ∧ w i < b

theorem BOk.same {d w w' : Int → Int} {a b : Int} (h : BOk d w a b) (e : ∀ k, a ≤ k → k < b → w' k = w k) : BOk d w' a b := ⟨h.1.same e, fun i i1 i2 => by rw [e i i1 i2]; exact h.2 i i1 i2⟩

/-- Blocks up to a place, and from a place on. -/
inductive Bl (d w : Int → Int) (k : Int) : Int → Prop where
  | nil : Bl d w k 0
  | snoc {a : Int} (h : Bl d w k a) (b : BOk d w a (a + k)) : Bl d w k (a + k)
inductive Bk (d w : Int → Int) (k n : Int) : Int → Prop where
  | nil {a : Int} (h : n ≤ a) : Bk d w k n a
  | cons {a : Int} (b : BOk d w a (min (a + k) n)) (h : Bk d w k n (a + k)) : Bk d w k n a

theorem Bl.same {d w w' : Int → Int} {k : Int} (hk : 0 ≤ k) : ∀ {a : Int}, Bl d w k a → (∀ i, i < a → w' i = w i) → Bl d w' k a := by
  intro a h
  induction h with
  | nil => intro _; exact .nil
  | snoc h b ih => intro e; exact .snoc (ih fun i hi => e i (by omega)) (b.same fun i _ i2 => e i i2)
theorem Bk.same {d w w' : Int → Int} {k n : Int} (hk : 0 ≤ k) : ∀ {a : Int}, Bk d w k n a → (∀ i, a ≤ i → w' i = w i) → Bk d w' k n a := by
  intro a h
  induction h with
  | nil h => intro _; exact .nil h
  | cons b h ih => intro e; exact .cons (b.same fun i i1 _ => e i i1) (ih fun i hi => e i (by omega))
theorem Bl.to {d w : Int → Int} {k n : Int} (hk : 0 ≤ k) : ∀ {a : Int}, Bl d w k a → a ≤ n → Bk d w k n a → Bk d w k n 0 := by
  intro a h
  induction h with
  | nil => intro _ h; exact h
  | @snoc a h b ih => intro hn h2; exact ih (by omega) (.cons (by rw [show min (a + k) n = a + k by omega]; exact b) h2)

theorem BOk.move {d w g : Int → Int} {a m b : Int} (h1 : BOk d w a m) (h2 : BOk d w m b) (h : a ≤ m) (h' : m ≤ b) (mv : Mv w g a b) (hs : SrtI d g a b) : BOk d g a b := ⟨hs, fun i i1 i2 => by
  obtain ⟨k, e1, e2, e3⟩ := mv.2 i i1 i2
  rw [e3]
  by_cases c : k < m
  · have := h1.2 k e1 c; omega
  · have := h2.2 k (by omega) e2; omega⟩

end Go.Proofs.YtljbcihbgeiacaaGreat

/- VcSymQ -/
namespace Go.Proofs.YtljbcihbgeiacaaGreat

def lst (n : Nat) (f : Int → Int) : List Int := (List.range n).map fun (k : Nat) => f k
theorem lst_len (n : Nat) (f : Int → Int) : (lst n f).length = n := by unfold lst; simp
theorem lst_at {n : Nat} {f : Int → Int} {x : Nat} (h : x < n) : (lst n f)[x]? = some (f x) := by unfold lst; simp [h]
theorem lst_set {n : Nat} {f : Int → Int} {x : Int} (x0 : 0 ≤ x) (v : Int) : (lst n f).set x.toNat v = lst n fun k => if k = x then v else f k := by
  refine List.ext_getElem? fun i => ?_
  by_cases hi : i < n
  · rw [lst_at hi, List.getElem?_set]
    by_cases e : x.toNat = i
    · rw [if_pos e, if_pos (by rw [lst_len]; omega), if_pos (show (i : Int) = x by omega)]
    · rw [if_neg e, lst_at hi, if_neg (show ¬ (i : Int) = x by omega)]
  · rw [List.getElem?_eq_none (by rw [List.length_set, lst_len]; omega), List.getElem?_eq_none (by rw [lst_len]; omega)]
theorem lst_same {n : Nat} {f g : Int → Int} (h : ∀ k : Int, 0 ≤ k → k < n → f k = g k) : lst n f = lst n g := by
  refine List.ext_getElem? fun i => ?_
  by_cases hi : i < n
  · rw [lst_at hi, lst_at hi, h i (by omega) (by omega)]
  · rw [List.getElem?_eq_none (by rw [lst_len]; omega), List.getElem?_eq_none (by rw [lst_len]; omega)]
theorem lst_push (n : Nat) (f : Int → Int) (v : Int) : lst n f ++ [v] = lst (n + 1) fun k => if k < n then f k else v := by
  refine List.ext_getElem? fun i => ?_
  by_cases hi : i < n
  · rw [List.getElem?_append_left (by rw [lst_len]; exact hi), lst_at hi, lst_at (by omega), if_pos (show (i : Int) < n by omega)]
  · by_cases he : i = n
    · subst he
      rw [List.getElem?_append_right (by rw [lst_len]; omega), lst_len, lst_at (by omega), if_neg (by omega), Nat.sub_self]
      rfl
    · rw [List.getElem?_eq_none (by rw [List.length_append, lst_len]; simp; omega), List.getElem?_eq_none (by rw [lst_len]; omega)]
theorem lst_snoc (n : Nat) (f : Int → Int) : lst (n + 1) f = lst n f ++ [f n] := by
  rw [lst_push]
  refine lst_same fun k k0 k1 => ?_
  by_cases h : k < n
  · rw [if_pos h]
  · rw [if_neg h, show k = n by omega]

def Rg (n : Nat) (f : Int → Int) : Prop := ∀ k : Int, 0 ≤ k → k < n → 0 ≤ f k ∧ f k < n

theorem lst_pair {d g : Int → Int} {n : Nat} (h : SrtI d g 0 n) : (lst n g).Pairwise (Rl d) := by
  rw [List.pairwise_iff_getElem]
  intro i j hi hj hij
  rw [lst_len] at hi hj
  have e1 : (lst n g)[i]'(by rw [lst_len]; exact hi) = g i := by
    have := lst_at (f := g) hi
    rw [List.getElem?_eq_getElem (by rw [lst_len]; exact hi)] at this
    exact Option.some.inj this
  have e2 : (lst n g)[j]'(by rw [lst_len]; exact hj) = g j := by
    have := lst_at (f := g) hj
    rw [List.getElem?_eq_getElem (by rw [lst_len]; exact hj)] at this
    exact Option.some.inj this
  rw [e1, e2]
  exact h i j (by omega) (by omega) (by omega)

theorem nodup_perm {α : Type} : ∀ {a b : List α}, a.Nodup → (∀ x ∈ a, x ∈ b) → b.length ≤ a.length → a.Perm b
  | [], b, _, _, h => by
    have : b = [] := List.eq_nil_of_length_eq_zero (by simpa using h)
    rw [this]
  | x :: a, b, hn, hs, hl => by
    obtain ⟨s, t, rfl⟩ := List.append_of_mem (hs x (List.mem_cons_self ..))
    rw [List.nodup_cons] at hn
    have hs' : ∀ y ∈ a, y ∈ s ++ t := fun y hy => by
      have := hs y (List.mem_cons_of_mem _ hy)
      rw [List.mem_append, List.mem_cons] at this
      rw [List.mem_append]
      rcases this with h | rfl | h
      · exact .inl h
      · exact absurd hy hn.1
      · exact .inr h
    rw [List.length_append] at hl
    have := nodup_perm hn.2 hs' (by rw [List.length_append]; simp at hl; omega)
    exact (List.Perm.cons x this).trans List.perm_middle.symm

theorem lst_perm {d g : Int → Int} {n : Nat} (h : SrtI d g 0 n) (hr : Rg n g) : (lst n g).Perm (lst n fun k => k) := by
  refine nodup_perm ?_ (fun x hx => ?_) (by rw [lst_len, lst_len]; exact Nat.le_refl _)
  · rw [List.nodup_iff_pairwise_ne]
    exact (lst_pair h).imp fun {a b} (hab : Rl d a b) (e : a = b) => Rl.irr (d := d) (x := b) (by rw [e] at hab; exact hab)
  · obtain ⟨k, hk, rfl⟩ := List.mem_map.1 hx
    have hk := List.mem_range.1 hk
    obtain ⟨h1, h2⟩ := hr k (by omega) (by omega)
    exact List.mem_map.2 ⟨(g k).toNat, List.mem_range.2 (by omega), by show ((g k).toNat : Int) = g k; omega⟩

theorem lst_uniq {d g h : Int → Int} {n : Nat} (h1 : SrtI d g 0 n) (h2 : Rg n g) (h3 : SrtI d h 0 n) (h4 : Rg n h) : lst n g = lst n h := by
  refine ((lst_perm h1 h2).trans (lst_perm h3 h4).symm).eq_of_pairwise (le := Rl d) (fun a b _ _ x y => ?_) (lst_pair h1) (lst_pair h3)
  exact absurd (x.trans y) Rl.irr

/-- The document's insertion: a gap goes down. -/
def gap (g : Int → Int) (i k : Int) : Int → Int := fun j => if j ≤ k then (if j < i then g j else i) else g (j - 1)
def put (g : Int → Int) (i k : Int) : Int → Int := fun j => if j < k then g j else if j = k then i else g (j - 1)

theorem gap_step {g : Int → Int} {i k : Int} (h : k ≤ i) (j : Int) : (if j = k then gap g i k (k - 1) else gap g i k j) = gap g i (k - 1) j := by
  unfold gap
  by_cases e : j = k
  · rw [if_pos e, if_pos (by omega), if_pos (by omega), if_neg (by omega), e]
  · rw [if_neg e]
    by_cases e2 : j ≤ k
    · rw [if_pos e2, if_pos (show j ≤ k - 1 by omega)]
    · rw [if_neg e2, if_neg (by omega)]

theorem gap_put {g : Int → Int} {i k : Int} (h : k ≤ i) (j : Int) : (if j = k then i else gap g i k j) = put g i k j := by
  unfold gap put
  by_cases e : j = k
  · rw [if_pos e, if_neg (by omega), if_pos e]
  · rw [if_neg e]
    by_cases e2 : j < k
    · rw [if_pos (by omega), if_pos (by omega), if_pos e2]
    · rw [if_neg (by omega), if_neg e2, if_neg e]

theorem put_ok {d g : Int → Int} {i k : Int} (hs : SrtI d g 0 i) (hr : ∀ j, 0 ≤ j → j < i → 0 ≤ g j ∧ g j < i) (k0 : 0 ≤ k) (k1 : k ≤ i) (lo : 0 < k → d (g (k - 1)) ≤ d i) (hi : ∀ j, k ≤ j → j < i → d i < d (g j)) :
    SrtI d (put g i k) 0 (i + 1) ∧ ∀ j, 0 ≤ j → j < i + 1 → 0 ≤ put g i k j ∧ put g i k j < i + 1 := by
  have low : ∀ p, 0 ≤ p → p < k → Rl d (g p) i := fun p p0 p1 => by
    have z : Rl d (g (k - 1)) i := Rl.le (lo (by omega)) (hr (k - 1) (by omega) (by omega)).2
    by_cases e : p = k - 1
    · rw [e]; exact z
    · exact (hs p (k - 1) p0 (by omega) (by omega)).trans z
  refine ⟨fun p q p0 pq q1 => ?_, fun j j0 j1 => ?_⟩
  · unfold put
    by_cases c1 : p < k
    · rw [if_pos c1]
      by_cases c2 : q < k
      · rw [if_pos c2]; exact hs p q p0 pq (by omega)
      · rw [if_neg c2]
        by_cases c3 : q = k
        · rw [if_pos c3]; exact low p p0 c1
        · rw [if_neg c3]; exact hs p (q - 1) p0 (by omega) (by omega)
    · rw [if_neg c1, if_neg (show ¬ q < k by omega), if_neg (show ¬ q = k by omega)]
      by_cases c3 : p = k
      · rw [if_pos c3]; exact Rl.lt (hi (q - 1) (by omega) (by omega))
      · rw [if_neg c3]; exact hs (p - 1) (q - 1) (by omega) (by omega) (by omega)
  · unfold put
    by_cases c1 : j < k
    · rw [if_pos c1]; have := hr j j0 (by omega); omega
    · rw [if_neg c1]
      by_cases c3 : j = k
      · rw [if_pos c3]; omega
      · rw [if_neg c3]; have := hr (j - 1) (by omega) (by omega); omega

end Go.Proofs.YtljbcihbgeiacaaGreat

/- VcStab -/
namespace Go.Proofs.YtljbcihbgeiacaaGreat

/-- A slice's rows, mixed; all else as it was. -/
def PermS (u0 u : H) (s : Sl) (l : List Rw) (v : H) : Prop := Else u v s ∧ ∃ m : List Rw, m.Perm l ∧ OwnF u0 v 43 2 s (m.flatMap encR)

theorem PermS.base {u0 u ub v : H} {s : Sl} {l : List Rw} (h : PermS u0 u s l v) (hub : ub.le u) (hbs : ∀ b, s.blk = some b → ub b = none) : ub.le v := fun c o hc => h.1 c o (hub c o hc) fun e => by rw [hbs c e] at hc; cases hc

theorem PermS.len {u0 u v : H} {s : Sl} {l : List Rw} (h : PermS u0 u s l v) : s.n = l.length := by
  obtain ⟨_, m, hp, ho⟩ := h
  have := flat_n encR_len (by decide) ho.own.seg
  rw [hp.length_eq] at this
  exact this

/-- Two of them are read. -/
theorem PermS.at2 {u0 u v : H} {s : Sl} {l : List Rw} (h : PermS u0 u s l v) {x y : Int} (x0 : 0 ≤ x) (x1 : x < s.n) (y0 : 0 ≤ y) (y1 : y < s.n) : ∃ p, s.a = some p ∧ ∃ a b : Rw, a ∈ l ∧ b ∈ l ∧
    v.cell? (p.add (x.toNat * 2)) = some (.int .i64 a.id) ∧ v.cell? ((p.add (x.toNat * 2)).add 1) = some (.slice a.s.a a.s.n a.s.c) ∧ v.cell? (p.add (y.toNat * 2)) = some (.int .i64 b.id) ∧ v.cell? ((p.add (y.toNat * 2)).add 1) = some (.slice b.s.a b.s.n b.s.c) ∧
    ∀ f g : H → Prop, (∀ v', PermS u0 u s l v' → f v') → (∀ v1, H.St v1 (p.add (y.toNat * 2)) [.int .i64 a.id, .slice a.s.a a.s.n a.s.c] f → g v1) → H.St v (p.add (x.toNat * 2)) [.int .i64 b.id, .slice b.s.a b.s.n b.s.c] g := by
  have hsn := h.len
  obtain ⟨he, m, hp, ho⟩ := h
  have hml := hp.length_eq
  have hx : x.toNat < m.length := by omega
  have hy : y.toNat < m.length := by omega
  obtain ⟨p, hpp, hc⟩ := Seg.elem encR_len (by decide) ho.own.seg (List.getElem?_eq_getElem hx)
  obtain ⟨p', hpp', hd⟩ := Seg.elem encR_len (by decide) ho.own.seg (List.getElem?_eq_getElem hy)
  obtain rfl : p' = p := by rw [hpp] at hpp'; exact (Option.some.inj hpp').symm
  have hc0 := hc 0 _ rfl
  have hd0 := hd 0 _ rfl
  rw [Addr.add_zero'] at hc0 hd0
  refine ⟨p', hpp, m[x.toNat], m[y.toNat], hp.mem_iff.1 (List.getElem_mem hx), hp.mem_iff.1 (List.getElem_mem hy), hc0, hc 1 _ rfl, hd0, hd 1 _ rfl, fun f g hf hg => ?_⟩
  refine OwnF.store (enc := encR) encR_len ho (by decide) (i := x.toNat) hx (y := m[y.toNat]) (by simp [encR, Value.oneCell']) hpp fun v1 ho1 he1 _ => hg v1 ?_
  refine OwnF.store (enc := encR) encR_len ho1 (by decide) (i := y.toNat) (by rw [List.length_set]; exact hy) (y := m[x.toNat]) (by simp [encR, Value.oneCell']) hpp fun v2 ho2 he2 _ => hf v2 ⟨fun c o hc hne => he2 c o (he1 c o (he c o hc hne) hne) hne, _, ?_, ho2⟩
  refine List.Perm.trans ?_ hp
  rw [← swapL_eq hx hy]
  exact swapL_perm hx hy

theorem mid_eq {x y : Int} (hx : 0 ≤ x) (hy : 0 ≤ y) (h : x + y ≤ 4000000000) : IntKind.i64.wrap (Int.fdiv (IntKind.u64.wrap (x + y)) (2 ^ 1)) = (x + y) / 2 := by
  have e1 : IntKind.u64.wrap (x + y) = x + y := by
    show (x + y) % 18446744073709551616 = x + y
    omega
  rw [e1, Int.fdiv_eq_ediv_of_nonneg _ (by decide)]
  exact IntWalk.i64_in _ (by omega)

end Go.Proofs.YtljbcihbgeiacaaGreat

/- VcSymI -/
namespace Go.Proofs.YtljbcihbgeiacaaGreat

/-- A slice's places; all else as it was. -/
structure Fs (u0 u : H) (s : Sl) (n : Nat) (f : Int → Int) (v : H) : Prop where
  els : Else u v s
  own : OwnF u0 v 3 1 s ((lst n f).flatMap encI)

theorem Fs.len {u0 u v : H} {s : Sl} {n : Nat} {f : Int → Int} (h : Fs u0 u s n f v) : s.n = n := by
  have h1 : s.n = _ := h.own.ints.len
  rw [h1, lst_len]
theorem Fs.base {u0 u ub v : H} {s : Sl} {n : Nat} {f : Int → Int} (h : Fs u0 u s n f v) (hub : ub.le u) (hbs : ∀ b, s.blk = some b → ub b = none) : ub.le v := fun c o hc => h.els c o (hub c o hc) fun e => by rw [hbs c e] at hc; cases hc

theorem Fs.at {u0 u v : H} {s : Sl} {n : Nat} {f : Int → Int} (h : Fs u0 u s n f v) {x : Int} (x0 : 0 ≤ x) (x1 : x < n) : ∃ p, s.a = some p ∧ v.cell? (p.add (x.toNat * 1)) = some (.int .i64 (f x)) := by
  have hn := h.len
  obtain ⟨p, hp, hc⟩ := h.own.ints.at x0 (show x < (s.n : Int) by omega)
  refine ⟨p, hp, ?_⟩
  rw [hc, List.getD_eq_getElem?_getD, lst_at (by omega)]
  rw [show ((x.toNat : Nat) : Int) = x by omega]
  rfl

/-- Two of them are read, and changed over. -/
theorem Fs.at2 {u0 u v : H} {s : Sl} {n : Nat} {f : Int → Int} (h : Fs u0 u s n f v) {x y : Int} (x0 : 0 ≤ x) (x1 : x < n) (y0 : 0 ≤ y) (y1 : y < n) : ∃ p, s.a = some p ∧
    v.cell? (p.add (x.toNat * 1)) = some (.int .i64 (f x)) ∧ v.cell? (p.add (y.toNat * 1)) = some (.int .i64 (f y)) ∧
    ∀ F G : H → Prop, (∀ v', Fs u0 u s n (swp f x y) v' → F v') → (∀ v1, H.St v1 (p.add (y.toNat * 1)) [.int .i64 (f x)] F → G v1) → H.St v (p.add (x.toNat * 1)) [.int .i64 (f y)] G := by
  obtain ⟨p, hp, c0⟩ := h.at x0 x1
  obtain ⟨p', hp', c1⟩ := h.at y0 y1
  obtain rfl : p' = p := by rw [hp] at hp'; exact (Option.some.inj hp').symm
  refine ⟨p', hp, c0, c1, fun F G hF hG => ?_⟩
  refine OwnF.store (enc := encI) encI_len h.own (by decide) (i := x.toNat) (by rw [lst_len]; omega) (y := f y) (by simp [encI, Value.oneCell']) hp fun v1 ho1 he1 _ => hG v1 ?_
  refine OwnF.store (enc := encI) encI_len ho1 (by decide) (i := y.toNat) (by rw [List.length_set, lst_len]; omega) (y := f x) (by simp [encI, Value.oneCell']) hp fun v2 ho2 he2 _ => hF v2 ⟨fun c o hc hne => he2 c o (he1 c o (h.els c o hc hne) hne) hne, ?_⟩
  rw [lst_set x0, lst_set y0] at ho2
  have e : (fun k => if k = y then f x else (fun k => if k = x then f y else f k) k) = swp f x y := by
    funext k
    unfold swp
    by_cases h1 : k = y
    · by_cases h2 : k = x
      · simp only [if_pos h1, if_pos h2]; rw [← h1, h2]
      · simp only [if_pos h1, if_neg h2]
    · simp only [if_neg h1]
  rw [e] at ho2
  exact ho2

/-- A comparison by a distance. -/
def CmpI (d : Int → Int) (ub : H) (n : Nat) (fv : Value) : Prop := ∀ (a b : Int) (v : H) (K : Int → H → Prop), 0 ≤ a → a < n → 0 ≤ b → b < n → ub.le v → (∀ z, (z < 0 ↔ d a < d b) → K z v) → ClV Tryz.prog fv #[.int .i64 a, .int .i64 b] [.one (.int .i64)] v K

theorem Rg.mv {n : Nat} {f g : Int → Int} {a b : Int} (h : Rg n f) (m : Mv f g a b) (a0 : 0 ≤ a) (bn : b ≤ n) : Rg n g := fun k k0 k1 => by
  by_cases e : k < a ∨ b ≤ k
  · rw [m.1 k e]; exact h k k0 k1
  · obtain ⟨k', e1, e2, e3⟩ := m.2 k (by omega) (by omega)
    rw [e3]; exact h k' (by omega) (by omega)

theorem spec.swapRangeI {u0 u v : H} {s : Sl} {n : Nat} {f : Int → Int} {a b c : Int} {fv : Value} {K : H → Prop} (h : Fs u0 u s n f v) (hsm : n ≤ 1000000) (a0 : 0 ≤ a) (hab : a + c ≤ b) (hb : b + c ≤ n) (c0 : 0 ≤ c) (hK : ∀ v', Fs u0 u s n (sws f a b c) v' → K v') : C.slices_swapRangeCmpFunc_int_ s a b c fv v K := by
  have hsn := h.len
  apply vc.slices_swapRangeCmpFunc_int_
  refine ⟨fun i w => 0 ≤ i ∧ i ≤ c ∧ Fs u0 u s n (sws f a b i) w, fun i _ => (c - i).toNat, ⟨by omega, by omega, by rw [sws_zero]; exact h⟩, ?_⟩
  rintro i w ⟨i0, i1, hw⟩
  refine ⟨fun hi => ?_, fun hi => hK w (by rw [show c = i by omega]; exact hw)⟩
  obtain ⟨p, hp, c0, c1, hst⟩ := hw.at2 (x := a + i) (y := b + i) (by omega) (by omega) (by omega) (by omega)
  refine ⟨⟨by omega, by omega⟩, ⟨by omega, by omega⟩, ⟨by omega, by omega⟩, p, hp, ⟨by omega, by omega⟩, ⟨by omega, by omega⟩, p, hp, ⟨by omega, by omega⟩, _, c1, _, c0, p, hp, ⟨by omega, by omega⟩, ?_⟩
  refine hst _ _ (fun v' hv' => ⟨⟨by omega, by omega⟩, ⟨by omega, by omega, ?_⟩, by dsimp only; omega⟩) fun v1 h1 => ⟨p, hp, ⟨by omega, by omega⟩, h1⟩
  rw [sws_step hab i0 hi] at hv'
  exact hv'

theorem spec.rotateI {u0 u v : H} {s : Sl} {n : Nat} {f : Int → Int} {a m b : Int} {fv : Value} {K : H → Prop} (h : Fs u0 u s n f v) (hsm : n ≤ 1000000) (a0 : 0 ≤ a) (ham : a < m) (hmb : m < b) (hb : b ≤ n) (hK : ∀ v', Fs u0 u s n (rot f a m b) v' → K v') : C.slices_rotateCmpFunc_int_ s a m b fv v K := by
  have hsn := h.len
  apply vc.slices_rotateCmpFunc_int_
  refine ⟨⟨by omega, by omega⟩, ⟨by omega, by omega⟩, fun i j w => 0 < i ∧ i ≤ m - a ∧ 0 < j ∧ j ≤ b - m ∧ ∃ g, Fs u0 u s n g w ∧ rot g (m - i) m (m + j) = rot f a m b, fun i j _ => (i + j).toNat, ⟨by omega, by omega, by omega, by omega, f, h, by rw [show m - (m - a) = a by omega, show m + (b - m) = b by omega]⟩, ?_⟩
  rintro i j w ⟨i0, i1, j0, j1, g, hw, hg⟩
  refine ⟨fun hne => ⟨fun hlt => ⟨⟨by omega, by omega⟩, ?_⟩, fun hlt => ⟨⟨by omega, by omega⟩, ⟨by omega, by omega⟩, ⟨by omega, by omega⟩, ?_⟩⟩, fun he => ⟨⟨by omega, by omega⟩, ?_⟩⟩
  · exact spec.swapRangeI hw hsm (by omega) (by omega) (by omega) (by omega) fun v' hv' => ⟨⟨by omega, by omega⟩, ⟨by omega, by omega, by omega, by omega, _, hv', by rw [rot_left (by omega) j0]; exact hg⟩, by dsimp only; omega⟩
  · exact spec.swapRangeI hw hsm (by omega) (by omega) (by omega) (by omega) fun v' hv' => ⟨⟨by omega, by omega⟩, ⟨by omega, by omega, by omega, by omega, _, hv', by rw [rot_right (by omega) i0]; exact hg⟩, by dsimp only; omega⟩
  · refine spec.swapRangeI hw hsm (by omega) (by omega) (by omega) (by omega) fun v' hv' => hK v' ?_
    have hij : j = i := by omega
    rw [hij, ← rot_last i0] at hg
    rw [← hg]
    exact hv'

/-- One comes into its place among those before it. -/
structure Ins (d f w : Int → Int) (a i j : Int) : Prop where
  mv : Mv f w a (i + 1)
  at' : w j = f i
  from' : ∀ k, a ≤ k → k ≤ i → k ≠ j → ∃ k', a ≤ k' ∧ k' < i ∧ w k = f k'
  srt : ∀ p q, a ≤ p → p < q → q ≤ i → p ≠ j → q ≠ j → Rl d (w p) (w q)
  up : ∀ q, j < q → q ≤ i → Rl d (w j) (w q)

theorem Ins.start {d f w : Int → Int} {a i : Int} (hm : Mv f w a i) (hs : SrtI d w a i) (_ha : a ≤ i) : Ins d f w a i i :=
  ⟨hm.wide (Int.le_refl _) (by omega), hm.1 i (by omega), fun k k0 k1 hne => hm.2 k k0 (by omega), fun p q p0 pq q1 _ hq => hs p q p0 pq (by omega), fun q q0 q1 => by omega⟩

theorem Ins.step {d f w : Int → Int} {a i j : Int} (h : Ins d f w a i j) (j0 : a < j) (j1 : j ≤ i) (hlt : d (w j) < d (w (j - 1))) : Ins d f (swp w j (j - 1)) a i (j - 1) := by
  have s1 : swp w j (j - 1) (j - 1) = w j := by
    unfold swp
    rw [if_neg (by omega), if_pos rfl]
  have s2 : swp w j (j - 1) j = w (j - 1) := by
    unfold swp
    rw [if_pos rfl]
  have s3 : ∀ k, k ≠ j → k ≠ j - 1 → swp w j (j - 1) k = w k := fun k h1 h2 => by
    unfold swp
    rw [if_neg h1, if_neg h2]
  refine ⟨h.mv.trans (swp_mv (by omega) (by omega) (by omega) (by omega)), s1.trans h.at', fun k k0 k1 hne => ?_, fun p q p0 pq q1 hp hq => ?_, fun q q0 q1 => ?_⟩
  · by_cases e : k = j
    · rw [e, s2]; exact h.from' (j - 1) (by omega) (by omega) (by omega)
    · rw [s3 k e hne]; exact h.from' k k0 k1 e
  · by_cases e1 : p = j
    · rw [e1, s2, s3 q (by omega) hq]
      exact h.srt (j - 1) q (by omega) (by omega) q1 (by omega) (by omega)
    · rw [s3 p e1 hp]
      by_cases e2 : q = j
      · rw [e2, s2]; exact h.srt p (j - 1) p0 (by omega) (by omega) e1 (by omega)
      · rw [s3 q e2 hq]; exact h.srt p q p0 pq q1 e1 e2
  · rw [s1]
    by_cases e : q = j
    · rw [e, s2]; exact Rl.lt hlt
    · rw [s3 q e (by omega)]; exact h.up q (by omega) q1

theorem Ins.stop {d f w : Int → Int} {a i j : Int} (h : Ins d f w a i j) (j0 : a ≤ j) (j1 : j ≤ i) (hinc : ∀ k, a ≤ k → k < i → f k < f i) (hge : a < j → d (w (j - 1)) ≤ d (w j)) : Mv f w a (i + 1) ∧ SrtI d w a (i + 1) := by
  refine ⟨h.mv, fun p q p0 pq q1 => ?_⟩
  have lo : ∀ p, a ≤ p → p < j → Rl d (w p) (w j) := fun p p0 p1 => by
    have z : Rl d (w (j - 1)) (w j) := Rl.le (hge (by omega)) (by
      obtain ⟨k', e1, e2, e3⟩ := h.from' (j - 1) (by omega) (by omega) (by omega)
      rw [e3, h.at']
      exact hinc k' e1 e2)
    by_cases e : p = j - 1
    · rw [e]; exact z
    · exact (h.srt p (j - 1) p0 (by omega) (by omega) (by omega) (by omega)).trans z
  by_cases e1 : p = j
  · rw [e1]; exact h.up q (by omega) (by omega)
  · by_cases e2 : q = j
    · rw [e2]; exact lo p p0 (by omega)
    · exact h.srt p q p0 pq (by omega) e1 e2

theorem spec.insSortI {d : Int → Int} {ub u0 u v : H} {s : Sl} {n : Nat} {f : Int → Int} {a b : Int} {fv : Value} {K : H → Prop} (hub : ub.le u) (hbs : ∀ b, s.blk = some b → ub b = none) (hc : CmpI d ub n fv) (h : Fs u0 u s n f v) (hr : Rg n f) (hsm : n ≤ 1000000) (a0 : 0 ≤ a) (hab : a ≤ b) (hb : b ≤ n) (hinc : ∀ p q, a ≤ p → p < q → q < b → f p < f q)
    (hK : ∀ g v', Fs u0 u s n g v' → Mv f g a b → SrtI d g a b → K v') : C.slices_insertionSortCmpFunc_int_ s a b fv v K := by
  have hsn := h.len
  apply vc.slices_insertionSortCmpFunc_int_
  refine ⟨⟨by omega, by omega⟩, fun i w => a < i ∧ ∃ g, Fs u0 u s n g w ∧ ((i ≤ b ∧ Mv f g a i ∧ SrtI d g a i) ∨ (b < i ∧ a = b ∧ g = f)), fun i _ => (b - i).toNat, ⟨by omega, f, h, ?_⟩, ?_⟩
  · by_cases e : a = b
    · exact .inr ⟨by omega, e, rfl⟩
    · exact .inl ⟨by omega, Mv.refl _ _ _, fun p q p0 pq q1 => by omega⟩
  rintro i w ⟨i0, g, hw, hg⟩
  refine ⟨fun hi => ?_, fun hi => ?_⟩
  · obtain ⟨_, hm, hs⟩ : i ≤ b ∧ Mv f g a i ∧ SrtI d g a i := hg.elim id fun e => by omega
    refine ⟨fun j w => a ≤ j ∧ j ≤ i ∧ ∃ g, Fs u0 u s n g w ∧ Ins d f g a i j, fun j _ => (j - a).toNat, ⟨by omega, by omega, g, hw, Ins.start hm hs (by omega)⟩, ?_⟩
    rintro j w ⟨j0, j1, g, hw, hI⟩
    intro K8 h8
    have next : ∀ {z : H} {g}, Fs u0 u s n g z → Mv f g a (i + 1) ∧ SrtI d g a (i + 1) → InR (i + 1) ∧ (a < i + 1 ∧ ∃ g, Fs u0 u s n g z ∧ ((i + 1 ≤ b ∧ Mv f g a (i + 1) ∧ SrtI d g a (i + 1)) ∨ (b < i + 1 ∧ a = b ∧ g = f))) ∧ (b - (i + 1)).toNat < (b - i).toNat := fun hz hg => ⟨⟨by omega, by omega⟩, ⟨by omega, _, hz, .inl ⟨by omega, hg.1, hg.2⟩⟩, by omega⟩
    have stop : (a < j → d (g (j - 1)) ≤ d (g j)) → Mv f g a (i + 1) ∧ SrtI d g a (i + 1) := fun hge => hI.stop j0 j1 (fun k k0 k1 => hinc k i k0 k1 hi) hge
    refine ⟨fun hj => ?_, fun hj => next hw (stop fun e => absurd e hj)⟩
    obtain ⟨p, hp, c0, c1, hst⟩ := hw.at2 (x := j) (y := j - 1) (by omega) (by omega) (by omega) (by omega)
    have hrg := hr.mv hI.mv a0 (by omega)
    obtain ⟨x0, x1⟩ := hrg j (by omega) (by omega)
    obtain ⟨y0, y1⟩ := hrg (j - 1) (by omega) (by omega)
    refine ⟨p, hp, ⟨by omega, by omega⟩, ⟨by omega, by omega⟩, p, hp, ⟨by omega, by omega⟩, _, c0, _, c1, ?_⟩
    refine hc _ _ w _ x0 x1 y0 y1 (hw.base hub hbs) fun z hz => ⟨fun hneg => h8 _ ?_, fun hnn => next hw (stop fun _ => by
      by_cases e : d (g j) < d (g (j - 1))
      · exact absurd (hz.2 e) hnn
      · omega)⟩
    refine ⟨⟨by omega, by omega⟩, ⟨by omega, by omega⟩, p, hp, ⟨by omega, by omega⟩, p, hp, ⟨by omega, by omega⟩, _, c1, _, c0, p, hp, ⟨by omega, by omega⟩, ?_⟩
    exact hst _ _ (fun v' hv' => ⟨⟨by omega, by omega⟩, ⟨by omega, by omega, _, hv', hI.step hj j1 (hz.1 hneg)⟩, by dsimp only; omega⟩) fun v1 h1 => ⟨p, hp, ⟨by omega, by omega⟩, h1⟩
  · rcases hg with ⟨hib, hm, hs⟩ | ⟨_, e, rfl⟩
    · rw [show i = b by omega] at hm hs
      exact hK g w hw hm hs
    · exact hK g w hw (Mv.refl _ _ _) fun p q p0 pq q1 => by omega

theorem spec.symMergeI {d : Int → Int} {ub u0 u : H} {s : Sl} {n : Nat} {fv : Value} (hub : ub.le u) (hbs : ∀ b, s.blk = some b → ub b = none) (hc : CmpI d ub n fv) (hsm : n ≤ 1000000) : ∀ (N : Nat) {a m b t : Int} {f : Int → Int} {v : H} {K : H → Prop}, b - a ≤ N → Fs u0 u s n f v → Rg n f → 0 ≤ a → a < m → m < b → b ≤ n → SrtI d f a m → SrtI d f m b → (∀ k, a ≤ k → k < m → f k < t) → (∀ k, m ≤ k → k < b → t ≤ f k) →
    (∀ g v', Fs u0 u s n g v' → Mv f g a b → SrtI d g a b → K v') → C.slices_symMergeCmpFunc_int_ s a m b fv v K := by
  intro N
  induction N with
  | zero => intro a m b t f v K hN h hr a0 ham hmb hb hx hy hl hrt hK; omega
  | succ N ih =>
    intro a m b t f v K hN h hr a0 ham hmb hb hx hy hl hrt hK
    have hsn := h.len
    apply vc.slices_symMergeCmpFunc_int_
    refine ⟨⟨by omega, by omega⟩, fun h1 => ?_, fun h1 => ⟨⟨by omega, by omega⟩, fun h2 => ?_, fun h2 => ?_⟩⟩
    · have hm1 : m = a + 1 := by omega
      subst hm1
      refine ⟨fun i j w => a + 1 ≤ i ∧ i ≤ j ∧ j ≤ b ∧ Fs u0 u s n f w ∧ (a + 1 < i → d (f (i - 1)) < d (f a)) ∧ (j < b → d (f a) ≤ d (f j)), fun i j _ => (j - i).toNat, ⟨by omega, by omega, by omega, h, fun e => by omega, fun e => by omega⟩, ?_⟩
      rintro i j w ⟨i0, ij, j1, hw, e1, e2⟩
      refine ⟨fun hij => ⟨⟨by omega, by omega⟩, by decide, ?_⟩, fun hij => ?_⟩
      · rw [mid_eq (by omega) (by omega) (by omega)]
        obtain ⟨c, hcc⟩ : ∃ c, c = (i + j) / 2 := ⟨_, rfl⟩
        rw [← hcc]
        obtain ⟨p, hp, c0, c1, _⟩ := hw.at2 (x := c) (y := a) (by omega) (by omega) (by omega) (by omega)
        obtain ⟨x0, x1⟩ := hr c (by omega) (by omega)
        obtain ⟨y0, y1⟩ := hr a (by omega) (by omega)
        refine ⟨p, hp, ⟨by omega, by omega⟩, p, hp, ⟨by omega, by omega⟩, _, c0, _, c1, ?_⟩
        refine hc _ _ w _ x0 x1 y0 y1 (hw.base hub hbs) fun z hz => ⟨fun hneg => ⟨⟨by omega, by omega⟩, ⟨by omega, by omega, by omega, hw, fun _ => by rw [show c + 1 - 1 = c by omega]; exact hz.1 hneg, e2⟩, by dsimp only; omega⟩, fun hnn => ⟨⟨by omega, by omega, by omega, hw, e1, fun _ => by
          by_cases e : d (f c) < d (f a)
          · exact absurd (hz.2 e) hnn
          · omega⟩, by dsimp only; omega⟩⟩
      · obtain rfl : i = j := by omega
        refine ⟨fun k w => a ≤ k ∧ k ≤ i - 1 ∧ Fs u0 u s n (shl f a k) w, fun k _ => (i - k).toNat, ⟨by omega, by omega, by rw [shl_zero]; exact hw⟩, ?_⟩
        rintro k w ⟨k0, k1, hw⟩
        refine ⟨⟨by omega, by omega⟩, fun hk => ?_, fun hk => ?_⟩
        · obtain ⟨p, hp, c0, c1, hst⟩ := hw.at2 (x := k) (y := k + 1) (by omega) (by omega) (by omega) (by omega)
          refine ⟨⟨by omega, by omega⟩, ⟨by omega, by omega⟩, p, hp, ⟨by omega, by omega⟩, p, hp, ⟨by omega, by omega⟩, _, c1, _, c0, p, hp, ⟨by omega, by omega⟩, ?_⟩
          refine hst _ _ (fun v' hv' => ⟨⟨by omega, by omega⟩, ⟨by omega, by omega, ?_⟩, by dsimp only; omega⟩) fun v1 h1 => ⟨p, hp, ⟨by omega, by omega⟩, h1⟩
          rw [shl_step k0] at hv'
          exact hv'
        · have ek : k = i - 1 := by omega
          rw [ek] at hw
          exact hK _ w hw (shl_mv (by omega) (by omega)) (srt_left (t := t) hy i0 j1 (hl a (by omega) (by omega)) hrt e1 e2)
    · have hb1 : b = m + 1 := by omega
      subst hb1
      refine ⟨fun i j w => a ≤ i ∧ i ≤ j ∧ j ≤ m ∧ Fs u0 u s n f w ∧ (a < i → d (f (i - 1)) ≤ d (f m)) ∧ (j < m → d (f m) < d (f j)), fun i j _ => (j - i).toNat, ⟨by omega, by omega, by omega, h, fun e => by omega, fun e => by omega⟩, ?_⟩
      rintro i j w ⟨i0, ij, j1, hw, e1, e2⟩
      refine ⟨fun hij => ⟨⟨by omega, by omega⟩, by decide, ?_⟩, fun hij => ?_⟩
      · rw [mid_eq (by omega) (by omega) (by omega)]
        obtain ⟨c, hcc⟩ : ∃ c, c = (i + j) / 2 := ⟨_, rfl⟩
        rw [← hcc]
        obtain ⟨p, hp, c0, c1, _⟩ := hw.at2 (x := m) (y := c) (by omega) (by omega) (by omega) (by omega)
        obtain ⟨x0, x1⟩ := hr m (by omega) (by omega)
        obtain ⟨y0, y1⟩ := hr c (by omega) (by omega)
        refine ⟨p, hp, ⟨by omega, by omega⟩, p, hp, ⟨by omega, by omega⟩, _, c0, _, c1, ?_⟩
        refine hc _ _ w _ x0 x1 y0 y1 (hw.base hub hbs) fun z hz => ⟨fun hnn => ⟨⟨by omega, by omega⟩, ⟨by omega, by omega, by omega, hw, fun _ => by
          rw [show c + 1 - 1 = c by omega]
          by_cases e : d (f m) < d (f c)
          · have := hz.2 e; omega
          · omega, e2⟩, by dsimp only; omega⟩, fun hneg => ⟨⟨by omega, by omega, by omega, hw, e1, fun _ => hz.1 (by omega)⟩, by dsimp only; omega⟩⟩
      · obtain rfl : i = j := by omega
        refine ⟨fun k w => i ≤ k ∧ k ≤ m ∧ Fs u0 u s n (shr f m k) w, fun k _ => (k - i).toNat, ⟨by omega, by omega, by rw [shr_zero]; exact hw⟩, ?_⟩
        rintro k w ⟨k0, k1, hw⟩
        refine ⟨fun hk => ?_, fun hk => ?_⟩
        · obtain ⟨p, hp, c0, c1, hst⟩ := hw.at2 (x := k) (y := k - 1) (by omega) (by omega) (by omega) (by omega)
          refine ⟨⟨by omega, by omega⟩, ⟨by omega, by omega⟩, p, hp, ⟨by omega, by omega⟩, p, hp, ⟨by omega, by omega⟩, _, c1, _, c0, p, hp, ⟨by omega, by omega⟩, ?_⟩
          refine hst _ _ (fun v' hv' => ⟨⟨by omega, by omega⟩, ⟨by omega, by omega, ?_⟩, by dsimp only; omega⟩) fun v1 h1 => ⟨p, hp, ⟨by omega, by omega⟩, h1⟩
          rw [shr_step k1] at hv'
          exact hv'
        · have ek : k = i := by omega
          rw [ek] at hw
          exact hK _ w hw (shr_mv i0 j1 (by omega)) (srt_right (t := t) hx i0 j1 (hrt m (by omega) (by omega)) hl e1 e2)
    · rw [mid_eq (by omega) (by omega) (by omega)]
      obtain ⟨mid, hmid⟩ : ∃ mid, mid = (a + b) / 2 := ⟨_, rfl⟩
      rw [← hmid]
      refine ⟨⟨by omega, by omega⟩, by decide, ⟨by omega, by omega⟩, ?_⟩
      intro K54 h54
      have body : ∀ s0 r0 : Int, a ≤ s0 → s0 ≤ r0 → r0 ≤ m → r0 ≤ mid → mid + m - b ≤ s0 → (s0 = a ∨ s0 = mid + m - b) → (r0 = m ∨ r0 = mid) → K54 s0 r0 v := by
        intro s0 r0 q1 q2 q3 q4 q5 q6 q7
        refine h54 s0 r0 v ⟨⟨by omega, by omega⟩, fun i j w => s0 ≤ i ∧ i ≤ j ∧ j ≤ r0 ∧ Fs u0 u s n f w ∧ (s0 < i → d (f (i - 1)) ≤ d (f (mid + m - 1 - (i - 1)))) ∧ (j < r0 → d (f (mid + m - 1 - j)) < d (f j)), fun i j _ => (j - i).toNat, ⟨by omega, by omega, by omega, h, fun e => by omega, fun e => by omega⟩, ?_⟩
        rintro i j w ⟨i0, ij, j1, hw, e1, e2⟩
        refine ⟨fun hij => ⟨⟨by omega, by omega⟩, by decide, ?_⟩, fun hij => ⟨⟨by omega, by omega⟩, ?_⟩⟩
        · rw [mid_eq (by omega) (by omega) (by omega)]
          obtain ⟨c, hcc⟩ : ∃ c, c = (i + j) / 2 := ⟨_, rfl⟩
          rw [← hcc]
          obtain ⟨p, hp, c0, c1, _⟩ := hw.at2 (x := mid + m - 1 - c) (y := c) (by omega) (by omega) (by omega) (by omega)
          obtain ⟨x0, x1⟩ := hr (mid + m - 1 - c) (by omega) (by omega)
          obtain ⟨y0, y1⟩ := hr c (by omega) (by omega)
          refine ⟨⟨by omega, by omega⟩, p, hp, ⟨by omega, by omega⟩, p, hp, ⟨by omega, by omega⟩, _, c0, _, c1, ?_⟩
          refine hc _ _ w _ x0 x1 y0 y1 (hw.base hub hbs) fun z hz => ⟨fun hnn => ⟨⟨by omega, by omega⟩, ⟨by omega, by omega, by omega, hw, fun _ => by
            rw [show c + 1 - 1 = c by omega]
            by_cases e : d (f (mid + m - 1 - c)) < d (f c)
            · have := hz.2 e; omega
            · omega, e2⟩, by dsimp only; omega⟩, fun hneg => ⟨⟨by omega, by omega, by omega, hw, e1, fun _ => hz.1 (by omega)⟩, by dsimp only; omega⟩⟩
        · obtain rfl : i = j := by omega
          intro K71 h71
          -- behind the turn
          obtain ⟨en, hen⟩ : ∃ en, en = mid + m - i := ⟨_, rfl⟩
          have parts := rot_parts (st := i) (en := en) (mid := mid) (t := t) hx hy (by omega) (by omega) (by omega) (by omega) (by omega) hl hrt (fun c1 c2 => by
            have := e1 (by omega)
            rw [show mid + m - 1 - (i - 1) = en by omega] at this
            exact this) (fun c1 c2 => by
            have := e2 (by omega)
            rw [show mid + m - 1 - i = en - 1 by omega] at this
            exact this)
          obtain ⟨r1, r2, r3, r4, r5, r6, r7, r8, r9⟩ := parts
          have mvr : Mv f (rot f i m en) a b := (rot_mv (by omega) (by omega)).wide (by omega) (by omega)
          have fin : ∀ z, Fs u0 u s n (rot f i m en) z → K71 z := by
            intro z hz
            refine h71 z ?_
            intro K73 h73
            have rg := hr.mv mvr a0 hb
            have fin2 : ∀ g z, Fs u0 u s n g z → Mv (rot f i m en) g a mid → SrtI d g a mid → K73 z := by
              intro g z hz mg sg
              have fin3 : ∀ g2 z, Fs u0 u s n g2 z → Mv g g2 mid b → SrtI d g2 mid b → K z := by
                intro g2 z hz mg2 sg2
                have mgw := mg.wide (a' := a) (b' := b) (by omega) (by omega)
                have mgw2 := mg2.wide (a' := a) (b' := b) (by omega) (by omega)
                refine hK g2 z hz ((mvr.trans mgw).trans mgw2) (srt_join (sg.same fun k k0 k1 => mg2.1 k (by omega)) sg2 fun p q p0 p1 q0 q1 => ?_)
                rw [mg2.1 p (by omega)]
                obtain ⟨p', x1, x2, x3⟩ := mg.2 p p0 p1
                obtain ⟨q', y1, y2, y3⟩ := mg2.2 q q0 q1
                rw [x3, y3, mg.1 q' (by omega)]
                exact r9 p' q' x1 x2 y1 y2
              have sg3 : ∀ k, mid ≤ k → g k = rot f i m en k := fun k k0 => mg.1 k (by omega)
              refine h73 z ⟨fun c1 => ⟨fun c2 => ?_, fun c2 => ?_⟩, fun c1 => ?_⟩
              · rw [← hen]
                exact ih (t := t) (by omega) hz (rg.mv mg a0 (by omega)) (by omega) (by omega) (by omega) (by omega) (r3.same fun k k0 k1 => sg3 k (by omega)) (r4.same fun k k0 k1 => sg3 k (by omega)) (fun k k0 k1 => by rw [sg3 k (by omega)]; exact r7 k k0 (by omega)) (fun k k0 k1 => by rw [sg3 k (by omega)]; exact r8 k (by omega) k1) fin3
              · exact fin3 g z hz (Mv.refl _ _ _) ((r3.same fun k k0 k1 => sg3 k (by omega)).sub (Int.le_refl _) (by omega))
              · exact fin3 g z hz (Mv.refl _ _ _) ((r4.same fun k k0 k1 => sg3 k (by omega)).sub (by omega) (Int.le_refl _))
            refine ⟨fun c1 => ⟨fun c2 => ?_, fun c2 => ?_⟩, fun c1 => ?_⟩
            · exact ih (t := t) (by omega) hz rg (by omega) (by omega) (by omega) (by omega) r1 r2 r5 r6 fin2
            · exact fin2 _ z hz (Mv.refl _ _ _) (r1.sub (Int.le_refl _) (by omega))
            · exact fin2 _ z hz (Mv.refl _ _ _) (r2.sub (by omega) (Int.le_refl _))
          have same : ¬ (i < m ∧ m < en) → rot f i m en = f := fun hne => by
            funext k
            unfold rot
            by_cases c1 : k < i ∨ en ≤ k
            · rw [if_pos c1]
            · rw [if_neg c1]
              by_cases c2 : i < m
              · have : en = m := by omega
                rw [if_neg (by omega), this, show k - (m - m) = k by omega]
              · have : i = m := by omega
                rw [if_pos (by omega), this, show k + (m - m) = k by omega]
          refine ⟨fun c1 => ⟨fun c2 => ?_, fun c2 => fin w (by rw [same (by omega)]; exact hw)⟩, fun c1 => fin w (by rw [same (by omega)]; exact hw)⟩
          rw [← hen]
          exact spec.rotateI hw hsm (by omega) (by omega) (by omega) (by omega) fin
      refine ⟨fun hlt => ⟨⟨by omega, by omega⟩, body _ _ (by omega) (by omega) (by omega) (by omega) (by omega) (by omega) (by omega)⟩, fun hge => body _ _ (by omega) (by omega) (by omega) (by omega) (by omega) (by omega) (by omega)⟩

theorem spec.slices_SortStableFunc___int_int_ {d : Int → Int} {ub u0 u : H} {s : Sl} {n : Nat} {fv : Value} {K : H → Prop} (ho : OwnF u0 u 3 1 s ((lst n fun k => k).flatMap encI)) (hub : ub.le u) (hbs : ∀ b, s.blk = some b → ub b = none) (hc : CmpI d ub n fv) (hsm : n ≤ 1000000)
    (hK : ∀ (u' : H) (g : Int → Int), SrtI d g 0 n → Rg n g → OwnF u0 u' 3 1 s ((lst n g).flatMap encI) → Else u u' s → K u') : C.slices_SortStableFunc___int_int_ s fv u K := by
  have h : Fs u0 u s n (fun k => k) u := ⟨Else.refl _ _, ho⟩
  have hsn := h.len
  have hr0 : Rg n fun k => k := fun k k0 k1 => ⟨k0, k1⟩
  apply vc.slices_SortStableFunc___int_int_
  apply vc.slices_stableCmpFunc_int_
  -- blocks of twenty
  refine ⟨fun a b w => 0 ≤ a ∧ a ≤ s.n ∧ b = a + 20 ∧ ∃ g, Fs u0 u s n g w ∧ Rg n g ∧ Bl d g 20 a ∧ ∀ k, a ≤ k → g k = k, fun a _ _ => ((s.n : Int) - a).toNat, ⟨by omega, by omega, by omega, _, h, hr0, .nil, fun _ _ => rfl⟩, ?_⟩
  rintro a b w ⟨a0, a1, hb, g, hw, hr, hbl, hid⟩
  have blk : ∀ {g' : Int → Int} {e : Int}, Mv g g' a e → SrtI d g' a e → BOk d g' a e := fun {g' e} mv hs => ⟨hs, fun i i1 i2 => by
    obtain ⟨k, e1, e2, e3⟩ := mv.2 i i1 i2
    rw [e3, hid k e1]
    exact ⟨e1, e2⟩⟩
  have inc : ∀ {e : Int} p q, a ≤ p → p < q → q < e → g p < g q := fun p q p0 pq q1 => by rw [hid p p0, hid q (by omega)]; exact pq
  refine ⟨fun hle => ?_, fun hgt => ?_⟩
  · refine spec.insSortI hub hbs hc hw hr hsm (by omega) (by omega) (by omega) inc fun g' v' hv' mv hs => ⟨⟨by omega, by omega⟩, ⟨by omega, by omega, by omega, g', hv', hr.mv mv a0 (by omega), ?_, fun k hk => by rw [mv.1 k (by omega)]; exact hid k (by omega)⟩, by dsimp only; omega⟩
    rw [hb] at mv hs ⊢
    exact .snoc (hbl.same (by omega) fun i hi => mv.1 i (by omega)) (blk mv hs)
  · refine spec.insSortI hub hbs hc hw hr hsm (by omega) (by omega) (by omega) inc fun g' v' hv' mv hs => ?_
    have hbk : Bk d g' 20 n 0 := by
      refine (hbl.same (by omega) fun i hi => mv.1 i (by omega)).to (by omega) (by omega) ?_
      refine .cons ?_ (.nil (by omega))
      rw [show min (a + 20) (n : Int) = s.n by omega]
      exact blk mv hs
    refine ⟨fun _ _ k w => 20 ≤ k ∧ k ≤ 4000000 ∧ ∃ g, Fs u0 u s n g w ∧ Rg n g ∧ Bk d g k n 0, fun _ _ k _ => (4000000 - k).toNat, ⟨by omega, by omega, g', hv', hr.mv mv a0 (by omega), hbk⟩, ?_⟩
    rintro _ _ k w ⟨k0, k1, g, hw, hr, hbk⟩
    refine ⟨fun hk => ⟨⟨by omega, by omega⟩, ?_⟩, fun hk => ?_⟩
    · refine ⟨fun x y w => 0 ≤ x ∧ x ≤ s.n ∧ y = x + 2 * k ∧ ∃ g, Fs u0 u s n g w ∧ Rg n g ∧ Bl d g (2 * k) x ∧ Bk d g k n x, fun x _ _ => ((s.n : Int) - x).toNat, ⟨by omega, by omega, by omega, g, hw, hr, .nil, hbk⟩, ?_⟩
      rintro x y w ⟨x0, x1, hy, g, hw, hr, hpre, hsuf⟩
      have next : ∀ {z : H} {g'}, Fs u0 u s n g' z → Rg n g' → Bk d g' (2 * k) n 0 → (20 ≤ k * 2 ∧ k * 2 ≤ 4000000 ∧ ∃ g, Fs u0 u s n g z ∧ Rg n g ∧ Bk d g (k * 2) n 0) := fun hz hr hb => ⟨by omega, by omega, _, hz, hr, by rw [Int.mul_comm]; exact hb⟩
      refine ⟨fun hle => ⟨⟨by omega, by omega⟩, ?_⟩, fun hgt => ⟨⟨by omega, by omega⟩, fun hm => ?_, fun hm => ⟨⟨by omega, by omega⟩, ?_, by dsimp only; omega⟩⟩⟩
      · obtain ⟨b1, b2, hrest⟩ : BOk d g x (x + k) ∧ BOk d g (x + k) (x + k + k) ∧ Bk d g k n (x + k + k) := by
          cases hsuf with
          | nil e => omega
          | cons c1 t1 =>
            rw [show min (x + k) (n : Int) = x + k by omega] at c1
            cases t1 with
            | nil e => omega
            | cons c2 t2 =>
              rw [show min (x + k + k) (n : Int) = x + k + k by omega] at c2
              exact ⟨c1, c2, t2⟩
        have ey : y = x + k + k := by omega
        refine spec.symMergeI (t := x + k) hub hbs hc hsm (y - x).toNat (by omega) hw hr (by omega) (by omega) (by omega) (by omega) b1.1 (by rw [ey]; exact b2.1) (fun i i0 i1 => (b1.2 i i0 i1).2) (fun i i0 i1 => (b2.2 i i0 (by omega)).1) fun g' v' hv' mv hs => ⟨⟨by omega, by omega⟩, ⟨by omega, by omega⟩, ⟨by omega, by omega, by omega, g', hv', hr.mv mv x0 (by omega), ?_, ?_⟩, by dsimp only; omega⟩
        · rw [hy] at mv hs ⊢
          refine .snoc (hpre.same (by omega) fun i hi => mv.1 i (by omega)) ?_
          refine BOk.move (m := x + k) b1 ?_ (by omega) (by omega) mv hs
          rw [show x + 2 * k = x + k + k by omega]
          exact b2
        · rw [ey] at mv ⊢
          exact hrest.same (by omega) fun i hi => mv.1 i (by omega)
      · obtain ⟨b1, b2⟩ : BOk d g x (x + k) ∧ BOk d g (x + k) n := by
          cases hsuf with
          | nil e => omega
          | cons c1 t1 =>
            rw [show min (x + k) (n : Int) = x + k by omega] at c1
            cases t1 with
            | nil e => omega
            | cons c2 t2 =>
              rw [show min (x + k + k) (n : Int) = n by omega] at c2
              exact ⟨c1, c2⟩
        refine spec.symMergeI (t := x + k) hub hbs hc hsm ((s.n : Int) - x).toNat (by omega) hw hr (by omega) (by omega) (by omega) (by omega) b1.1 (by rw [hsn]; exact b2.1) (fun i i0 i1 => (b1.2 i i0 i1).2) (fun i i0 i1 => (b2.2 i i0 (by omega)).1) fun g' v' hv' mv hs => ⟨⟨by omega, by omega⟩, ?_, by dsimp only; omega⟩
        rw [hsn] at mv hs
        refine next hv' (hr.mv mv x0 (by omega)) ?_
        refine (hpre.same (by omega) fun i hi => mv.1 i (by omega)).to (by omega) (by omega) (.cons ?_ (.nil (by omega)))
        rw [show min (x + 2 * k) (n : Int) = n by omega]
        exact BOk.move (m := x + k) b1 b2 (by omega) (by omega) mv hs
      · refine next hw hr (hpre.to (by omega) (by omega) ?_)
        cases hsuf with
        | nil e => exact .nil e
        | cons c1 t1 =>
          rw [show min (x + k) (n : Int) = n by omega] at c1
          refine .cons ?_ (.nil (by omega))
          rw [show min (x + 2 * k) (n : Int) = n by omega]
          exact c1
    · refine hK w g ?_ hr hw.own hw.els
      cases hbk with
      | nil e => exact fun p q p0 pq q1 => by omega
      | cons c1 t1 =>
        rw [show min (0 + k) (n : Int) = n by omega] at c1
        exact c1.1

end Go.Proofs.YtljbcihbgeiacaaGreat

/- VcNe -/
namespace Go.Proofs.YtljbcihbgeiacaaGreat

/-- How far a centre is. -/
def dC (cs : List (List Int)) (q : List Int) (i : Int) : Int := sqTo (cs.getD i.toNat []) q (cs.getD i.toNat []).length

theorem dC_at {cs : List (List Int)} {q c : List Int} {i : Int} (h : cs[i.toNat]? = some c) : dC cs q i = sqTo c q c.length := by
  unfold dC
  rw [List.getD_eq_getElem?_getD, h]
  rfl

namespace Iv
theorem bFarN : hasBody Tryz.prog 75 = true := by kernel_rfl
theorem bCmpN : hasBody Tryz.prog 78 = true := by kernel_rfl

abbrev farN (n0 n1 : Nat) : Value := .func (.func 75) #[] #[.pointer (some ⟨n0, 0, none⟩), .pointer (some ⟨n1, 0, none⟩)]

theorem cmpN {ub : H} {n0 n1 n25 b : Nat} {t sc : Sl} {cs : List (Sl × List Int)} {q : List Int} (h25 : ub.cell? ⟨n25, 0, none⟩ = some (farN n0 n1)) (h0 : ub.cell? ⟨n0, 0, none⟩ = some (.pointer (some ⟨b, 0, none⟩))) (h1 : ub.cell? ⟨n1, 0, none⟩ = some (.slice t.a t.n t.c))
    (hb : ub.cell? ((Addr.mk b 0 none).add 1) = some (.slice sc.a sc.n sc.c)) (hv : VcsAt ub sc cs) (ht : Ints ub t q) (hq : vok q) (hq1 : 1 ≤ q.length) (hc : ∀ c ∈ cs, c.2.length = q.length ∧ vok c.2) :
    CmpI (dC (cs.map (·.2)) q) ub cs.length (.func (.func 78) #[] #[.pointer (some ⟨n25, 0, none⟩)]) := by
  intro x y v K x0 x1 y0 y1 hle hK
  refine ⟨_, _, _, rfl, bodyOf bCmpN, vc.ivf_Tree__Nearest_2 x y ⟨n25, 0, none⟩ v K ?_⟩
  have c25 := H.le.cell hle h25
  have hn := hv.len
  have far : ∀ {i : Int} {Q : Int → Int → H → Prop}, 0 ≤ i → i < cs.length → (∀ hi lo, U64 hi → U64 lo → wv hi lo = dC (cs.map (·.2)) q i → Q hi lo v) → ClV Tryz.prog (farN n0 n1) #[.int .i64 i] [.agg [.int .u64, .int .u64]] v Q := fun {i Q} i0 i1 hQ => by
    obtain ⟨p, hp, c, hci, hcm, cc, hcv⟩ := (hv.mono hle).at i0 (by omega)
    obtain ⟨e1, e2⟩ := hc c hcm
    have e3 : dC (cs.map (·.2)) q i = sqTo c.2 q c.2.length := dC_at (by rw [List.getElem?_map, hci]; rfl)
    have dist : ∀ {R : Int → Int → Int → H → Prop}, (∀ hi lo, U64 hi → U64 lo → wv hi lo = dC (cs.map (·.2)) q i → R hi lo 0 v) → C.vec_Dist c.1 t v R := fun hR => spec.vec_Dist hcv (ht.mono hle) e2 (by omega) hq e1 fun hi lo h1 h2 h3 => hR hi lo h1 h2 (by rw [e3]; exact h3)
    exact ⟨_, _, _, rfl, bodyOf bFarN, vc.ivf_Tree__Nearest_1 i ⟨n0, 0, none⟩ ⟨n1, 0, none⟩ v Q ⟨_, H.le.cell hle h0, _, rfl, sc, H.le.cell hle hb, p, hp, ⟨i0, by omega⟩, c.1, cc, t, H.le.cell hle h1, dist fun hi lo h1 h2 h3 => ⟨H.le.refl _, hQ hi lo h1 h2 h3⟩, H.le.refl _, dist fun hi lo h1 h2 h3 => hQ hi lo h1 h2 h3⟩⟩
  refine ⟨_, c25, _, c25, far x0 x1 fun hi lo a1 a2 a3 => ⟨H.le.refl _, far y0 y1 fun hi' lo' b1 b2 b3 => spec.wide_Cmp a2 b2 (hK _ ?_)⟩⟩
  rw [a3, b3]
  split
  · rename_i h; exact ⟨fun _ => h, fun _ => by decide⟩
  · rename_i h
    refine ⟨fun e => ?_, fun e => absurd e h⟩
    split at e <;> omega

theorem spec.Nearest {u0 u : H} {fp : Nat → Option Tg} {b : Nat} {T : Tr} {t : Sl} {q : List Int} {n : Int} {K : Sl → Int → H → Prop} (h : In u0 u fp b T) (hT : TOk T) (ht : Ints u t q)
    (hbad : vcheck q T.dim ≠ 0 → ∀ u', u.le u' → K ⟨none, 0, 0⟩ (vcheck q T.dim) u') (hbad2 : vcheck q T.dim = 0 → (n < 0 ∨ 64 < n) → ∀ u', u.le u' → K ⟨none, 0, 0⟩ 1 u')
    (hok : vcheck q T.dim = 0 → 0 ≤ n → n ≤ 64 → ∀ s u' g, u.le u' → SrtI (dC T.links q) g 0 T.cs.length → Rg T.cs.length g → Ints u' s ((lst T.cs.length g).take n.toNat) → K s 0 u') : C.ivf_Tree__Nearest (some ⟨b, 0, none⟩) t n u K := by
  have hm := hT.many
  apply vc.ivf_Tree__Nearest
  intro n0 hn0 n1 hn1
  obtain ⟨o0, ho0⟩ : ∃ o0, o0 = (Obj.cells #[Value.pointer (some ⟨b, 0, none⟩)] 30 (0, 0)) := ⟨_, rfl⟩
  obtain ⟨o1, ho1⟩ : ∃ o1, o1 = (Obj.cells #[Value.slice t.a t.n t.c] 41 (0, 0)) := ⟨_, rfl⟩
  rw [← ho0] at hn1 ⊢
  rw [← ho1]
  have l1 : u.le (u.ins n0 o0) := H.le_ins _ hn0
  have l2' : (u.ins n0 o0).le ((u.ins n0 o0).ins n1 o1) := H.le_ins _ hn1
  obtain ⟨u2, hu2⟩ : ∃ u2, u2 = (u.ins n0 o0).ins n1 o1 := ⟨_, rfl⟩
  rw [← hu2] at l2' ⊢
  have l2 : u.le u2 := l1.trans l2'
  have d0 : u2 n0 = some o0 := l2' _ _ (H.ins_same _ _ _)
  have d1 : u2 n1 = some o1 := by rw [hu2]; exact H.ins_same _ _ _
  have c0 : u2.cell? ⟨n0, 0, none⟩ = some (.pointer (some ⟨b, 0, none⟩)) := by rw [ho0] at d0; exact H.cell?_of d0 0
  have c1 : u2.cell? ⟨n1, 0, none⟩ = some (.slice t.a t.n t.c) := by rw [ho1] at d1; exact H.cell?_of d1 0
  have tr := (InG.mono keep h l2).tr
  have ht2 := ht.mono l2
  refine ⟨_, c0, fun e => (by cases e), fun _ => ⟨t, c1, _, c0, _, rfl, _, H.cell?_of tr.cell 0, spec.vec_Check ht2 ⟨fun hne => hbad hne u2 l2, fun he => ?_⟩⟩⟩
  intro K9 h9
  refine ⟨fun hx => hbad2 he (.inl hx) u2 l2, fun a1 => ⟨fun hx => hbad2 he (.inr hx) u2 l2, fun a2 => h9 ⟨none, 0, 0⟩ _ _ ?_⟩⟩
  clear h9 K9
  have hok := hok he (by omega) (by omega)
  obtain ⟨hd1, _, hql, hvq⟩ := vcheck_ok he
  have hv : VcsAt u2 T.sc T.cs := ⟨tr.carr, fun c hc => by
    obtain ⟨i, hi, rfl⟩ := List.getElem_of_mem hc
    exact (tr.cvec i _ (List.getElem?_eq_getElem hi)).1⟩
  have hn := hv.len
  have csc : u2.cell? ((Addr.mk b 0 none).add 1) = some (.slice T.sc.a T.sc.n T.sc.c) := H.cell?_of tr.cell 1
  refine ⟨_, c0, _, rfl, T.sc, csc, ?_⟩
  refine ⟨fun s x w => 0 ≤ x ∧ x ≤ T.sc.n ∧ OwnF u2 w 3 1 s ((lst x.toNat fun k => k).flatMap encI), fun _ x _ => ((T.sc.n : Int) - x).toNat, ⟨by omega, by omega, OwnF.nil (H.le.refl _) _ _⟩, ?_⟩
  rintro s x w ⟨x0, x1, ho⟩
  have hsn : s.n = x.toNat := by
    have h9 : s.n = _ := ho.ints.len
    rw [h9, lst_len]
  refine ⟨fun hx => ?_, fun hx => ?_⟩
  · refine sem_push' tInts (build_int1 _) (by decide) rfl (by simp [Value.oneCell']) ho (by show s.n < _; omega) (by show (s.n + 1) * _ ≤ _; omega) fun s' u' ho' _ _ _ _ => ⟨⟨by omega, by omega⟩, ⟨by omega, by omega, ?_⟩, by dsimp only; omega⟩
    rw [show (x + 1).toNat = x.toNat + 1 by omega, lst_snoc, List.flatMap_append, show ((x.toNat : Nat) : Int) = x by omega]
    exact ho'
  · intro n25 hn25
    refine st_new (zs := [.nilFunc]) rfl (by simp [Value.oneCell']) ?_
    obtain ⟨w2, hw2⟩ : ∃ w2, w2 = w.ins n25 (.cells [farN n0 n1].toArray 133 (0, 0)) := ⟨_, rfl⟩
    rw [← hw2]
    have lw : w.le w2 := by rw [hw2]; exact H.le_ins _ hn25
    have d25 : w2 n25 = some (.cells [farN n0 n1].toArray 133 (0, 0)) := by rw [hw2]; exact H.ins_same _ _ _
    have lu2w : u2.le w2 := ho.le.trans lw
    have ho2 : OwnF u2 w2 3 1 s ((lst T.cs.length fun k => k).flatMap encI) := by
      have := ho.mono lw
      rwa [show x.toNat = T.cs.length by omega] at this
    obtain ⟨ubS, hubS⟩ : ∃ ubS : H, ubS = H.sans w2 s := ⟨_, rfl⟩
    have lS : u2.le ubS := fun c o hc => by
      rw [hubS, sans_at (fun e => by rw [ho.fresh c e] at hc; cases hc)]
      exact lu2w c o hc
    have S25 : ubS n25 = w2 n25 := by rw [hubS]; exact sans_at fun e => own_known ho e hn25
    refine spec.slices_SortStableFunc___int_int_ (d := dC T.links q) (n := T.cs.length) ho2 (by rw [hubS]; exact sans_le _ _) (fun b hb => by rw [hubS]; exact if_pos hb) (cmpN (n0 := n0) (n1 := n1) (b := b) (t := t) (sc := T.sc) (by rw [d25] at S25; exact H.cell?_of S25 0) (H.le.cell lS c0) (H.le.cell lS c1) (H.le.cell lS csc) (hv.mono lS) (ht2.mono lS) hvq (by omega) fun c hc => ?_) (by omega) fun u27 g hs hr ho27 _ => ?_
    · obtain ⟨e1, e2⟩ := hT.cvok c hc
      exact ⟨by omega, e2⟩
    · have hi27 := ho27.ints
      have hsn2 : s.n = T.cs.length := by omega
      have hcap : s.n ≤ s.c := Seg.cap hi27
      obtain ⟨k, hk⟩ : ∃ k : Nat, (k : Int) = (if (s.n : Int) < n then (s.n : Int) else n) := by
        by_cases e : (s.n : Int) < n
        · exact ⟨s.n, by rw [if_pos e]⟩
        · exact ⟨n.toNat, by rw [if_neg e]; omega⟩
      rw [← hk]
      have hks : k ≤ s.n := by split at hk <;> omega
      refine sem_slice tInts (l := 0) (h := k) (m := s.c) (.inl ⟨rfl, rfl⟩) (.inr rfl) (.inl ⟨rfl, rfl⟩) (by omega) (by omega) (Nat.le_refl _) hcap ?_
      refine hok _ u27 g (l2.trans ho27.le) hs hr ?_
      have hp := hi27.part (l := 0) (h := k) (m := s.c) (by omega) hks (by omega) (Nat.le_refl _)
      rw [List.drop_zero, Nat.sub_zero] at hp
      have et : (lst T.cs.length g).take k = (lst T.cs.length g).take n.toNat := by
        split at hk
        · rw [List.take_of_length_le (by rw [lst_len]; omega), List.take_of_length_le (by rw [lst_len]; omega)]
        · rw [show k = n.toNat by omega]
      rw [et] at hp
      exact hp

end Iv
end Go.Proofs.YtljbcihbgeiacaaGreat

/- VcLawNe -/
namespace Go.Proofs.YtljbcihbgeiacaaGreat

theorem law.IvfNearest {s qs : Sl} {l : List Rw} {q : List Int} {dim A B seed n : Int} {u : H} {K : Bool → H → Prop} (hTab : TabU u) (hs : Rws u s l) (hsm : ∀ r ∈ l, r.v.length ≤ 17592186044416) (hsn : s.n ≤ 17592186044416) (hU : U64 seed) (hq : Ints u qs q) (h : ∀ u', u.le u' → K true u') :
    C.theodolitelaw09_IvfNearest s dim A B seed qs n u K := by
  have hqn := hq.len
  have hln := hs.len
  have fin : ∀ {bb : Bool} {v : H}, bb = true → u.le v → K bb v := fun hb hv => by rw [hb]; exact h _ hv
  have aw : ∀ {v : H}, u.le v → C.theodolitelaw09_awake v (fun (b44 : Bool) (u45 : H) => K b44 u45) := fun lv => spec.theodolitelaw09_awake (hTab.mono lv) fun u' l' => h _ (lv.trans l')
  apply vc.theodolitelaw09_IvfNearest
  intro K0 h0
  refine spec.theodolitelaw09_big (ops := []) ⟨hs, Ops.nil u, hsm, hsn, fun o ho => (by cases ho), by show 0 ≤ 17592186044416; omega⟩ ⟨fun _ => h u (H.le.refl u), fun e => (by cases e)⟩ fun hl _ _ _ => ⟨fun e => (by cases e), fun _ => ⟨fun _ => h u (H.le.refl u), fun _ => h0 _ _ ?_⟩⟩
  clear h0 K0
  refine spec.ix_Build hs hTab hU (fun hne => ?_) (fun he b D X u5 hX hp hdim hway hg0 => ?_)
  · intro K6 h6
    exact ⟨fun _ => aw (H.le.refl u), fun e => absurd e hne⟩
  intro K6 h6
  refine ⟨fun hx => absurd rfl hx, fun _ => ⟨fun e => (by cases e), fun _ => h6 _ _ ?_⟩⟩
  clear h6 K6
  have hrok := ixErr_rok he
  have hle5 := (Ix.base hX).1
  obtain ⟨fp, h1, h2, h3⟩ := IxG.ex hX
  have tail : ∀ (x10 : Int) (u11 : H), u.le u11 → x10 = (if vcheck q dim = 0 then (if n < 0 ∨ 64 < n then 1 else 0) else vcheck q dim) → ∀ (P : Int → H → Prop), (P x10 u11) → C.theodoliteref03_Check qs dim u11 (fun (x12 : Int) (u13 : H) => ∀ K14 : (Int → (H → Prop)), (∀ x15 : Int, ∀ u16 : H, P x15 u16 → K14 x15 u16) → ((x12 = 0) → ((n < 0) → K14 1 u13) ∧ ((¬ (n < 0)) → (((64 : Int) < n) → K14 1 u13) ∧ ((¬ ((64 : Int) < n)) → K14 x12 u13))) ∧ ((¬ (x12 = 0)) → K14 x12 u13)) := by
    intro x10 u11 l11 hx P hP
    refine spec.theodoliteref03_Check (hq.mono l11) ?_
    intro K14 h14
    refine ⟨fun e => ⟨fun e1 => ?_, fun e1 => ⟨fun e2 => ?_, fun e2 => ?_⟩⟩, fun e => ?_⟩
    · rw [if_pos e, if_pos (.inl e1)] at hx
      exact h14 _ _ (by rw [← hx]; exact hP)
    · rw [if_pos e, if_pos (.inr e2)] at hx
      exact h14 _ _ (by rw [← hx]; exact hP)
    · rw [if_pos e, if_neg (by omega)] at hx
      exact h14 _ _ (by rw [e, ← hx]; exact hP)
    · rw [if_neg e] at hx
      exact h14 _ _ (by rw [← hx]; exact hP)
  have l5q := hq.mono hle5
  have hdim' : X.dim = dim := hdim
  refine Iv.spec.Nearest h2 h3 l5q (fun hne u11 l11 => ?_) (fun hv0 hnb u11 l11 => ?_) fun hv0 n0 n64 s9 u11 g l11 hsrt hrg hs9 => ?_
  · refine tail _ u11 (hle5.trans l11) (by rw [hdim'] at hne ⊢; rw [if_neg hne]) _ ⟨fun hx => absurd rfl hx, fun _ => ⟨fun _ => ?_, fun e => absurd e hne⟩⟩
    exact spec.theodolitelaw09_awake (hTab.mono (hle5.trans l11)) fun u' l' => ⟨fun _ => fin (decide_eq_true rfl) ((hle5.trans l11).trans l'), fun e => (by cases e)⟩
  · refine tail _ u11 (hle5.trans l11) (by rw [hdim'] at hv0; rw [if_pos hv0, if_pos hnb]) _ ⟨fun hx => absurd rfl hx, fun _ => ⟨fun _ => ?_, fun e => (by cases e)⟩⟩
    exact spec.theodolitelaw09_awake (hTab.mono (hle5.trans l11)) fun u' l' => ⟨fun _ => fin (decide_eq_true rfl) ((hle5.trans l11).trans l'), fun e => (by cases e)⟩
  have lu11 := hle5.trans l11
  refine tail 0 u11 lu11 (by rw [hdim'] at hv0; rw [if_pos hv0, if_neg (by omega)]) _ ⟨fun hx => absurd rfl hx, fun _ => ⟨fun e => absurd rfl e, fun _ => ?_⟩⟩
  obtain ⟨hA, hB⟩ := ixErr_way he
  refine spec.theodolitelaw09_centres (hs.mono lu11) hrok hA hB fun s19 u20 cs P l20 hV hPp hPs hcs => ?_
  obtain ⟨P', q1, q2, q3⟩ := hway
  have eP : P' = P := pr_rise_eq q2 hPs (q1.trans hPp.symm)
  have elinks : X.links = cs.map (·.2) := by rw [q3, eP, ← hcs]
  have hcsl : cs.length = X.cs.length := by
    have := congrArg List.length elinks
    unfold Iv.Tr.links at this
    rw [List.length_map, List.length_map] at this
    exact this.symm
  have hm := h3.many
  obtain ⟨_, _, hql, hvq⟩ := vcheck_ok hv0
  have hcsok : ∀ c ∈ cs, c.2.length = q.length ∧ vok c.2 := fun c hc => by
    have h9 : c.2 ∈ X.cs.map (·.2) := by
      have : c.2 ∈ cs.map (·.2) := List.mem_map_of_mem hc
      rw [← elinks] at this
      exact this
    obtain ⟨z, hz, e⟩ := List.mem_map.1 h9
    obtain ⟨z1, z2⟩ := h3.cvok z hz
    rw [e] at z1 z2
    exact ⟨by omega, z2⟩
  have hn19 := hV.len
  have hqv : ∀ {w : H}, u20.le w → Ints w qs q := fun hw => hq.mono ((lu11.trans l20).trans hw)
  obtain ⟨d, hd⟩ : ∃ d, d = dC X.links q := ⟨_, rfl⟩
  have dAt : ∀ {i : Int} {c : Sl × List Int}, cs[i.toNat]? = some c → d i = sqTo c.2 q c.2.length := fun {i c} hc => by
    rw [hd, elinks]
    exact dC_at (by rw [List.getElem?_map, hc]; rfl)
  refine ⟨fun t x w => 0 ≤ x ∧ x ≤ s19.n ∧ ∃ f, OwnF u20 w 3 1 t ((lst x.toNat f).flatMap encI) ∧ SrtI d f 0 x ∧ ∀ j, 0 ≤ j → j < x → 0 ≤ f j ∧ f j < x, fun _ x _ => ((s19.n : Int) - x).toNat, ⟨by omega, by omega, fun k => k, OwnF.nil (H.le.refl _) _ _, fun p q p0 pq q1 => (by omega), fun j j0 j1 => (by omega)⟩, ?_⟩
  rintro t x w ⟨x0, x1, f, ho, hsf, hrf⟩
  have htn : t.n = x.toNat := by
    have h9 : t.n = _ := ho.ints.len
    rw [h9, lst_len]
  refine ⟨fun hx => ?_, fun hx => ?_⟩
  · refine sem_push' tInts (build_int1 _) (by decide) rfl (by simp [Value.oneCell']) ho (by show t.n < _; omega) (by show (t.n + 1) * _ ≤ _; omega) fun t2 u29 ho2 hn2 _ _ _ => ?_
    have hn3 : t2.n = x.toNat + 1 := by rw [hn2]; show t.n + 1 = _; omega
    have ho3 : OwnF u20 u29 3 1 t2 ((lst (x.toNat + 1) (gap f x x)).flatMap encI) := by
      have e : lst x.toNat f ++ [x] = lst (x.toNat + 1) (gap f x x) := by
        rw [lst_push]
        refine lst_same fun k k0 k1 => ?_
        unfold gap
        by_cases e : k < x
        · rw [if_pos (by omega), if_pos (by omega), if_pos e]
        · rw [if_neg (by omega), if_pos (by omega), if_neg e]
      rw [← e, List.flatMap_append]
      exact ho2
    intro K30 h30
    refine ⟨fun k v => 0 ≤ k ∧ k ≤ x ∧ OwnF u20 v 3 1 t2 ((lst (x.toNat + 1) (gap f x k)).flatMap encI) ∧ ∀ j, k ≤ j → j < x → d x < d (f j), fun k _ => k.toNat, ⟨by omega, by omega, by rw [show (t.n : Int) = x by omega]; exact ho3, fun j j0 j1 => by omega⟩, ?_⟩
    rintro k v ⟨k0, k1, hov, hlt⟩
    have atv : ∀ {j : Int}, 0 ≤ j → j ≤ x → ∃ p, t2.a = some p ∧ v.cell? (p.add (j.toNat * 1)) = some (.int .i64 (gap f x k j)) := fun {j} j0 j1 => by
      obtain ⟨p, hp, hc⟩ := hov.ints.at j0 (show j < (t2.n : Int) by omega)
      refine ⟨p, hp, ?_⟩
      rw [hc, List.getD_eq_getElem?_getD, lst_at (by omega), show ((j.toNat : Nat) : Int) = j by omega]
      rfl
    have last : (0 < k → d (f (k - 1)) ≤ d x) → K30 k v := fun hge => by
      refine h30 k v ?_
      obtain ⟨p, hp, _⟩ := atv k0 k1
      refine ⟨p, hp, ⟨k0, by omega⟩, ?_⟩
      refine OwnF.store (enc := encI) encI_len hov (by decide) (i := k.toNat) (by rw [lst_len]; omega) (y := x) (by simp [encI, Value.oneCell']) hp fun v' ho' _ _ => ⟨⟨by omega, by omega⟩, ⟨by omega, by omega, put f x k, ?_, ?_⟩, by dsimp only; omega⟩
      · rw [lst_set k0] at ho'
        rw [show (x + 1).toNat = x.toNat + 1 by omega]
        have e : lst (x.toNat + 1) (fun j => if j = k then x else gap f x k j) = lst (x.toNat + 1) (put f x k) := lst_same fun j _ _ => gap_put k1 j
        rw [← e]
        exact ho'
      · exact put_ok hsf hrf k0 k1 hge hlt
    intro K39 h39
    refine ⟨fun hk => ?_, fun hk => ⟨H.le.refl _, last fun e => absurd e hk⟩⟩
    have lv : u20.le v := hov.le
    obtain ⟨p1, hp1, ci, hci, hcim, ccell, hcints⟩ := (hV.mono lv).at x0 (by omega)
    obtain ⟨p2, hp2, g2⟩ := atv (j := k - 1) (by omega) (by omega)
    have eg : gap f x k (k - 1) = f (k - 1) := by
      unfold gap
      rw [if_pos (by omega), if_pos (by omega)]
    rw [eg] at g2
    obtain ⟨f0, f1⟩ := hrf (k - 1) (by omega) (by omega)
    obtain ⟨p3, hp3, cj, hcj, hcjm, cjcell, hcjints⟩ := (hV.mono lv).at f0 (by omega)
    obtain ⟨i1, i2⟩ := hcsok ci hcim
    obtain ⟨j1, j2⟩ := hcsok cj hcjm
    refine ⟨p1, hp1, ⟨x0, by omega⟩, ⟨by omega, by omega⟩, p2, hp2, ⟨by omega, by omega⟩, ci.1, ccell, _, g2, p3, hp3, ⟨f0, by omega⟩, cj.1, cjcell, ?_⟩
    refine spec.theodoliteref03_Far hcints (hqv lv) i2 hvq i1 fun a1 b1 ha1 hb1 hw1 => ⟨H.le.refl _, spec.theodoliteref03_Far hcjints (hqv lv) j2 hvq j1 fun a2 b2 ha2 hb2 hw2 => spec.theodoliteref01_Less ha1 hb1 ha2 hb2 ⟨fun hb => ?_, fun hb => ?_⟩⟩
    · have hlt2 : d x < d (f (k - 1)) := by
        have := of_decide_eq_true hb
        rw [hw1, hw2] at this
        rw [dAt hci, dAt hcj]
        exact this
      refine h39 v ⟨⟨by omega, by omega⟩, p2, hp2, ⟨by omega, by omega⟩, _, g2, p2, hp2, ⟨by omega, by omega⟩, ?_⟩
      refine OwnF.store (enc := encI) encI_len hov (by decide) (i := k.toNat) (by rw [lst_len]; omega) (y := f (k - 1)) (by simp [encI, Value.oneCell']) hp2 fun v' ho' _ _ => ⟨⟨by omega, by omega⟩, ⟨by omega, by omega, ?_, fun j jk jx => ?_⟩, by dsimp only; omega⟩
      · rw [lst_set k0] at ho'
        have e : lst (x.toNat + 1) (fun j => if j = k then f (k - 1) else gap f x k j) = lst (x.toNat + 1) (gap f x (k - 1)) := lst_same fun j _ _ => by
          have := gap_step (g := f) k1 j
          rw [eg] at this
          exact this
        rw [← e]
        exact ho'
      · by_cases e : j = k - 1
        · rw [e]; exact hlt2
        · exact hlt j (by omega) jx
    · refine last fun _ => ?_
      have := of_decide_eq_false hb
      rw [hw1, hw2] at this
      rw [dAt hci, dAt hcj]
      omega
  · -- told
    have ex : x = X.cs.length := by omega
    refine spec.theodolitelaw09_awake (hTab.mono ((lu11.trans l20).trans ho.le)) fun u60 l60 => ⟨fun _ => ?_, fun e => (by cases e)⟩
    have hi60 := (ho.mono l60).ints
    have hcap : t.n ≤ t.c := Seg.cap hi60
    obtain ⟨k, hk⟩ : ∃ k : Nat, (k : Int) = (if (t.n : Int) < n then (t.n : Int) else n) := by
      by_cases e : (t.n : Int) < n
      · exact ⟨t.n, by rw [if_pos e]⟩
      · exact ⟨n.toNat, by rw [if_neg e]; omega⟩
    rw [← hk]
    have hks : k ≤ t.n := by split at hk <;> omega
    refine sem_slice tInts (l := 0) (h := k) (m := t.c) (.inl ⟨rfl, rfl⟩) (.inr rfl) (.inl ⟨rfl, rfl⟩) (by omega) (by omega) (Nat.le_refl _) hcap ?_
    have hp := hi60.part (l := 0) (h := k) (m := t.c) (by omega) hks (by omega) (Nat.le_refl _)
    rw [List.drop_zero, Nat.sub_zero] at hp
    refine spec.theodolitekeep_Ints (hs9.mono ((l20.trans ho.le).trans l60)) hp (fin (decide_eq_true ?_) (((lu11.trans l20).trans ho.le).trans l60))
    have ef : lst X.cs.length g = lst x.toNat f := by
      rw [show x.toNat = X.cs.length by omega]
      refine lst_uniq (d := d) (by rw [hd]; exact hsrt) hrg (by rw [ex] at hsf; exact hsf) fun j j0 j1 => ?_
      have := hrf j j0 (by omega)
      omega
    rw [ef]
    split at hk
    · rw [List.take_of_length_le (by rw [lst_len]; omega), List.take_of_length_le (by rw [lst_len]; omega)]
    · rw [show k = n.toNat by omega]

end Go.Proofs.YtljbcihbgeiacaaGreat
