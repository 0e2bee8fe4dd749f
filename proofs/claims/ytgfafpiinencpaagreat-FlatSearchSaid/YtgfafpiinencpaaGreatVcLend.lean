/- Lists that are lent: numbers and rows in memory of their own, with a mark behind them; given back, their owner writes over them. -/
import Derived.Test.YtgfafpiinencpaaGreatVcOpen
import Derived.Laws.IdiomCopy
namespace Go.Proofs.YtgfafpiinencpaaGreat

/-! ### blocks of cells of which all is known -/

section
variable {α : Type} {enc : α → List Value} {k : Nat}

theorem made_flat (hk : ∀ x, (enc x).length = k) (hk0 : 0 < k) (a : α) (m : Nat) : (madeCells (enc a).toArray (m * k)).toList = (List.replicate m a).flatMap enc := by
  apply List.ext_getElem?
  intro i
  by_cases hi : i < m * k
  · have e : i = i / k * k + i % k := by rw [Nat.mul_comm]; exact (Nat.div_add_mod i k).symm
    have hm : i % k < k := Nat.mod_lt _ hk0
    have hd : i / k < m := Nat.div_lt_of_lt_mul (by rw [Nat.mul_comm]; exact hi)
    have hr : ((List.replicate m a).flatMap enc)[i]? = (enc a)[i % k]? := by
      conv => lhs; rw [e]
      rw [flat_get hk _ _ _ hm, List.getElem?_replicate, if_pos hd]
      rfl
    rw [hr]
    have hm' : i % k < (enc a).length := by rw [hk]; exact hm
    simp [madeCells, hi, hk, hm]
  · rw [List.getElem?_eq_none (by simp [size_madeCells]; omega), List.getElem?_eq_none (by rw [flat_len hk]; simp; omega)]

/-- Elements in a block of their own. -/
def objOf (enc : α → List Value) (xs : List α) (T : TypeId) : Obj := .cells (xs.flatMap enc).toArray T (0, 0)

theorem cell_flat (hk : ∀ x, (enc x).length = k) {u : H} {g : Nat} {xs : List α} {T : TypeId} (hg : u g = some (objOf enc xs T)) {i j : Nat} {x : α} {v : Value} (hi : xs[i]? = some x) (hj : (enc x)[j]? = some v) :
    u.cell? (((Addr.mk g 0 none).add (i * k)).add j) = some v := by
  have hjk : j < k := by rw [← hk x]; exact (List.getElem?_eq_some_iff.1 hj).1
  rw [Addr.add_add', Addr.add_lit, Nat.zero_add, H.cell?_of hg]
  rw [List.getElem?_toArray, flat_get hk xs i j hjk, hi]
  exact hj

theorem cell_flat0 (hk : ∀ x, (enc x).length = k) {u : H} {g : Nat} {xs : List α} {T : TypeId} (hg : u g = some (objOf enc xs T)) {i : Nat} {x : α} {v : Value} (hi : xs[i]? = some x) (hj : (enc x)[0]? = some v) :
    u.cell? ((Addr.mk g 0 none).add (i * k)) = some v := cell_flat hk hg hi hj

theorem st_flat (hk : ∀ x, (enc x).length = k) {u : H} {g : Nat} {xs : List α} {T : TypeId} (hg : u g = some (objOf enc xs T)) {i : Nat} (hi : i < xs.length) {y : α} (h1 : ∀ v ∈ enc y, v.oneCell' = true) {f : H → Prop}
    (hf : f (u.ins g (objOf enc (xs.set i y) T))) : H.St u ((Addr.mk g 0 none).add (i * k)) (enc y) f := by
  have hadd : (⟨g, 0, none⟩ : Addr).add (i * k) = ⟨g, i * k, none⟩ := by rw [Addr.add_lit, Nat.zero_add]
  rw [hadd]
  have hle : i * k + k ≤ xs.length * k := by
    calc i * k + k = (i + 1) * k := by rw [Nat.succ_mul]
      _ ≤ xs.length * k := Nat.mul_le_mul_right _ hi
  have hsz : i * k + (enc y).length ≤ ((xs.flatMap enc).toArray).size := by rw [hk]; simpa [flat_len hk] using hle
  refine ⟨_, T, hg, rfl, hsz, h1, ?_⟩
  have : wr (xs.flatMap enc).toArray (i * k) (enc y) = ((xs.set i y).flatMap enc).toArray := by
    apply Array.ext'
    rw [wr_toList _ _ _ hsz, flat_set hk xs i y hi, hk]
  show f (u.ins g (.cells (wr (xs.flatMap enc).toArray (i * k) (enc y)) T (0, 0)))
  rw [this]
  exact hf

theorem flat_seg (hk : ∀ x, (enc x).length = k) {u : H} {g : Nat} {xs ys : List α} {T : TypeId} (hg : u g = some (objOf enc (xs ++ ys) T)) {c : Nat} (hc : xs.length ≤ c) (hm : c ≤ 9223372036854775807) :
    Seg u ⟨some ⟨g, 0, none⟩, xs.length, c⟩ k (xs.flatMap enc) := by
  refine ⟨flat_len hk xs, hc, hm, .inr ⟨_, rfl, fun i v e => ?_⟩⟩
  rw [Addr.add_lit, Nat.zero_add, H.cell?_of hg, List.getElem?_toArray, List.flatMap_append, List.getElem?_append_left ((List.getElem?_eq_some_iff.1 e).1)]
  exact e

end

theorem H.ins_self {u : H} {g : Nat} {o : Obj} (h : u g = some o) : u.ins g o = u := by
  funext x
  unfold H.ins
  split
  · rename_i hx; rw [hx, h]
  · rfl

theorem H.le_out {u v : H} (h : u.le v) {g : Nat} (hg : u g = none) (o : Obj) : u.le (v.ins g o) := fun b x hb => by
  rw [H.ins_other _ _ (fun e => by rw [e, hg] at hb; cases hb)]
  exact h b x hb

theorem H.ne_of {u : H} {a b : Nat} {o : Obj} (ha : u a = some o) (hb : u b = none) : a ≠ b := fun e => by rw [e, hb] at ha; cases ha

theorem sem_copy1 {P : Program} {dT sT ty e : TypeId} {bytes : Nat} {zs : List Value} (hT : elemT P dT = some (e, 1, bytes, zs)) {u : H} {g n c : Nat} {cur : Array Value} {T : TypeId} {x : Sl} {ys : List Value}
    (hg : u g = some (.cells cur T (0, 0))) (hx : Seg u x 1 ys) (h1 : ∀ y ∈ ys, y.oneCell' = true) (hn : x.n ≤ n) (hc : n ≤ cur.size) {K : Int → H → Prop}
    (hK : K x.n (u.ins g (.cells (ys ++ cur.toList.drop x.n).toArray T (0, 0)))) :
    SemT P (Builtin.copy_ #[dT, sT] ty #[.slice (some ⟨g, 0, none⟩) n c, .slice x.a x.n x.c]) [.one (.int .i64)] u K := by
  obtain ⟨ht, i, z, hi, hz, hsize, hby, hzs, hzl⟩ := elemT_spec hT
  have hlen : ys.length = x.n := by have := hx.len; simpa using this
  have hs : (P.info? e).map (·.size) = some 1 := by rw [hi]; simp [hsize]
  rcases hx.at' with h0 | ⟨p, hp, hcell⟩
  · subst h0
    have hx0 : x.n = 0 := by simpa using hlen.symm
    have e1 : u.ins g (.cells (([] : List Value) ++ cur.toList.drop x.n).toArray T (0, 0)) = u := by
      rw [hx0]
      exact H.ins_self (by rw [hg]; simp)
    rw [e1] at hK
    refine .one' (c := .int .i64) (x.n : Int) (fun w hw => ?_) hK
    rw [run_copy_none w dT sT ty e _ _ n c x.n x.c ht hs (by rw [hx0]; exact Nat.zero_min _), hx0]
    rfl
  · refine .one (c := .int .i64) fun w hw => ⟨(x.n : Int), _, _, ?_, hK, step_row hw hg _⟩
    rw [hp, run_copy_row P w dT sT ty e g 0 n c p x.n x.c cur T ys ht hs (hw _ _ hg) (by rw [hlen]; exact (Nat.min_eq_left hn).symm) (fun j v hj => hw.cell (hcell j v hj)) (by omega) h1, hlen]
    simp only [Nat.zero_add, List.take_zero, List.nil_append]
    rfl

/-! ### numbers -/

abbrev lentObj (q : List Int) : Obj := objOf encI (q ++ [-77]) 3

theorem lent_ints {u : H} {g : Nat} {q : List Int} (h : u g = some (lentObj q)) (hb : q.length ≤ 1000000) : Ints u ⟨some ⟨g, 0, none⟩, q.length, q.length + 1⟩ q := by
  have := flat_seg encI_len h (c := q.length + 1) (by omega) (by omega)
  rw [flatI] at this
  exact this

theorem part_front (g n c : Nat) (size : Nat) (hc : 0 < c) : Sl.part ⟨some ⟨g, 0, none⟩, c, c⟩ 0 n c size = ⟨some ⟨g, 0, none⟩, n, c⟩ := by
  simp only [Sl.part, Nat.sub_zero, Nat.zero_mul]
  rw [if_neg (by omega)]
  rfl

theorem part_all (g n c : Nat) (size : Nat) (hc : 0 < c) : Sl.part ⟨some ⟨g, 0, none⟩, n, c⟩ 0 c c size = ⟨some ⟨g, 0, none⟩, c, c⟩ := by
  simp only [Sl.part, Nat.sub_zero, Nat.zero_mul]
  rw [if_neg (by omega)]
  rfl

theorem spec.theodolitekeep_Lend {s : Sl} {q : List Int} {u : H} {K : Sl → H → Prop} (hs : Ints u s q) (hb : q.length ≤ 1000000)
    (hK : ∀ g, u g = none → K ⟨some ⟨g, 0, none⟩, q.length, q.length + 1⟩ (u.ins g (lentObj q))) : C.theodolitekeep_Lend s u K := by
  have hn := hs.len
  have e1 : ((s.n : Int) + 1).toNat = q.length + 1 := by omega
  apply vc.theodolitekeep_Lend
  refine ⟨⟨by omega, by omega⟩, sem_make tInts (by omega) (Int.le_refl _) (by omega) (by omega) fun g hg => ?_⟩
  rw [e1]
  have hs' : Seg (u.ins g (.cells (madeCells [Value.int .i64 0].toArray ((q.length + 1) * 1)) 3 (0, 0))) s 1 (q.flatMap encI) := by rw [flatI]; exact hs.mono (H.le_ins _ hg)
  refine sem_copy1 tInts (H.ins_same _ _ _) hs' (fun y hy => ?_) (by show s.n ≤ q.length + 1; omega) (by rw [size_madeCells]; show q.length + 1 ≤ _; omega) ?_
  · obtain ⟨h, _, hy⟩ := List.mem_flatMap.1 hy
    exact encI_one h y hy
  rw [H.ins_ins]
  have hmade := made_flat encI_len (by decide) 0 (q.length + 1)
  have hmade' : (madeCells [Value.int .i64 0].toArray ((q.length + 1) * 1)).toList = (List.replicate (q.length + 1) 0).flatMap encI := hmade
  have hobj : Obj.cells (q.flatMap encI ++ (madeCells [Value.int .i64 0].toArray ((q.length + 1) * 1)).toList.drop s.n).toArray 3 (0, 0) = objOf encI (q ++ [0]) 3 := by
    rw [hmade', hn]
    have := flat_drop encI_len (List.replicate (q.length + 1) 0) q.length
    rw [Nat.mul_one] at this
    rw [this, List.drop_replicate, ← List.flatMap_append]
    simp [objOf, show q.length + 1 - q.length = 1 by omega]
  rw [hobj]
  refine ⟨_, rfl, ⟨by omega, by show (s.n : Int) < ((q.length + 1 : Nat) : Int); omega⟩, ?_⟩
  rw [show (s.n : Int).toNat = q.length by omega]
  refine st_flat (y := -77) encI_len (H.ins_same _ _ _) (by simp) (encI_one _) ?_
  rw [H.ins_ins, List.set_append_right _ _ (Nat.le_refl _), Nat.sub_self, List.set_cons_zero]
  refine sem_slice (s := ⟨some ⟨g, 0, none⟩, q.length + 1, q.length + 1⟩) (l := 0) (h := q.length) (m := q.length + 1) tInts (.inl ⟨rfl, rfl⟩) (.inr (by rw [hn])) (.inl ⟨rfl, rfl⟩) (Nat.zero_le _) (by omega) (Nat.le_refl _) (Nat.le_refl _) ?_
  rw [part_front _ _ _ _ (by omega)]
  exact hK g hg

theorem spec.theodolitekeep_Ints {s t : Sl} {a b : List Int} {u : H} {K : Bool → H → Prop} (hs : Ints u s a) (ht : Ints u t b) (h : K (decide (a = b)) u) : C.theodolitekeep_Ints s t u K := by
  have key : ∀ z, decide (a = b) = z → K z u := fun z e => e ▸ h
  have hn := hs.len
  have hm := ht.len
  have hmx := hs.max
  apply vc.theodolitekeep_Ints
  refine ⟨fun hne => key _ ?_, fun he => ?_⟩
  · have : a ≠ b := fun e => hne (by rw [hn, hm, e])
    simp [this]
  · refine ⟨fun _ i v => v = u ∧ 0 ≤ i ∧ i ≤ (s.n : Int) ∧ a.take i.toNat = b.take i.toNat, fun _ i _ => s.n - i.toNat, ⟨rfl, by omega, by omega, by simp⟩, ?_⟩
    rintro _ i v ⟨rfl, h0, h1, hp⟩
    refine ⟨fun hi => ?_, fun hi => key _ ?_⟩
    · obtain ⟨p, hp1, c0⟩ := hs.at h0 hi
      obtain ⟨q, hq1, d0⟩ := ht.at h0 (show i < (t.n : Int) by omega)
      have ia : i.toNat < a.length := by omega
      have ib : i.toNat < b.length := by omega
      have ga : a.getD i.toNat 0 = a[i.toNat] := by simp [List.getD_eq_getElem?_getD, ia]
      have gb : b.getD i.toNat 0 = b[i.toNat] := by simp [List.getD_eq_getElem?_getD, ib]
      refine ⟨p, hp1, ⟨h0, hi⟩, q, hq1, ⟨h0, by omega⟩, _, c0, _, d0, fun hne => key _ ?_, fun hxy => ⟨⟨by omega, by omega⟩, ⟨rfl, by omega, by omega, ?_⟩, by dsimp only; omega⟩⟩
      · have : a ≠ b := fun e => hne (by rw [e])
        simp [this]
      · rw [ga, gb] at hxy
        have e1 : (i + 1).toNat = i.toNat + 1 := by omega
        rw [e1, List.take_add_one, List.take_add_one, hp, List.getElem?_eq_getElem ia, List.getElem?_eq_getElem ib, hxy]
    · have e1 : i.toNat = a.length := by omega
      rw [e1, List.take_length, ← hn, show s.n = b.length by omega, List.take_length] at hp
      simp [hp]

theorem spec.theodolitekeep_Back {t : Sl} {q : List Int} {g : Nat} {u : H} {K : Bool → H → Prop} (hg : u g = some (lentObj q)) (ht : Ints u t q) (hb : q.length ≤ 1000000)
    (hK : ∀ o, K true (u.ins g o)) : C.theodolitekeep_Back ⟨some ⟨g, 0, none⟩, q.length, q.length + 1⟩ t u K := by
  have hn := ht.len
  have e1 : (t.n : Int) + 1 = ((q.length + 1 : Nat) : Int) := by omega
  have hsl : ∀ {K' : Sl → H → Prop}, K' ⟨some ⟨g, 0, none⟩, q.length + 1, q.length + 1⟩ u → SemT Tryz.prog (Instr.sliceAt 23 (.slice (some ⟨g, 0, none⟩) q.length (q.length + 1)) none (some (.int .i64 ((t.n : Int) + 1))) none) [.one .slice] u K' := fun hK' => by
    rw [e1]
    refine sem_slice (s := ⟨some ⟨g, 0, none⟩, q.length, q.length + 1⟩) (l := 0) (h := q.length + 1) (m := q.length + 1) tInts (.inl ⟨rfl, rfl⟩) (.inr rfl) (.inl ⟨rfl, rfl⟩) (Nat.zero_le _) (Nat.le_refl _) (Nat.le_refl _) (Nat.le_succ _) ?_
    rw [part_all _ _ _ _ (by omega)]
    exact hK'
  apply vc.theodolitekeep_Back
  intro K0 hK0
  refine spec.theodolitekeep_Ints (lent_ints hg hb) ht ?_
  rw [decide_eq_true rfl]
  refine ⟨fun _ => ⟨⟨by omega, by omega⟩, hsl ⟨_, rfl, ⟨by omega, by dsimp only; omega⟩, -77, ?_, hK0 _ _ ?_⟩⟩, fun hb => by cases hb⟩
  · rw [show (t.n : Int).toNat = q.length by omega]
    exact cell_flat0 (x := -77) encI_len hg (by simp) rfl
  rw [decide_eq_true rfl]
  refine ⟨⟨by omega, by omega⟩, hsl ?_⟩
  refine ⟨fun x v => 0 ≤ x ∧ ∃ L : List Int, L.length = q.length + 1 ∧ v = u.ins g (objOf encI L 3), fun x _ => q.length + 1 - x.toNat, ⟨by omega, _, by simp, (H.ins_self hg).symm⟩, ?_⟩
  rintro x v ⟨x0, L, hL, rfl⟩
  refine ⟨fun hx => ?_, fun _ => hK _⟩
  have hx' : x < ((q.length + 1 : Nat) : Int) := hx
  have hxl : x.toNat < L.length := by omega
  refine ⟨_, rfl, ⟨x0, hx⟩, L[x.toNat], cell_flat0 encI_len (H.ins_same _ _ _) (List.getElem?_eq_getElem hxl) rfl, _, rfl, ⟨x0, hx⟩, st_flat (y := Go.bits Go.BinOp.xor Go.IntKind.i64 L[x.toNat] 85) encI_len (H.ins_same _ _ _) hxl (encI_one _) ⟨⟨by omega, by omega⟩, ⟨by omega, _, ?_, H.ins_ins _ _ _ _⟩, by dsimp only; omega⟩⟩
  simpa using hL

/-! ### rows -/

/-- What a row tells. -/
def Rw.pr (r : Rw) : Int × List Int := (r.id, r.v)

/-- The mark behind rows that are lent. -/
def markR : Rw := ⟨-77, ⟨none, 0, 0⟩, []⟩

abbrev rowsObj (ls : List Rw) : Obj := objOf encR ls 49

/-- The vectors of rows that are lent. -/
structure LentR (u0 u : H) (g : Nat) (ls : List Rw) : Prop where
  inner : ∀ r ∈ ls, ∃ h, r.s = ⟨some ⟨h, 0, none⟩, r.v.length, r.v.length + 1⟩ ∧ u h = some (lentObj r.v) ∧ u0 h = none ∧ h ≠ g ∧ r.v.length ≤ 1000000
  apart : ls.Pairwise fun a b => a.s.blk ≠ b.s.blk

theorem LentR.else {u0 u u' : H} {g : Nat} {ls : List Rw} (h : LentR u0 u g ls) (he : ∀ b o, b ≠ g → u b = some o → u' b = some o) : LentR u0 u' g ls :=
  ⟨fun r hr => by obtain ⟨x, h1, h2, h3, h4, h5⟩ := h.inner r hr; exact ⟨x, h1, he _ _ h4 h2, h3, h4, h5⟩, h.apart⟩

theorem LentR.rws {u0 u : H} {g : Nat} {ls ms : List Rw} (h : LentR u0 u g ls) (hg : u g = some (rowsObj (ls ++ ms))) {c : Nat} (hc : ls.length ≤ c) (hm : c ≤ 9223372036854775807) : Rws u ⟨some ⟨g, 0, none⟩, ls.length, c⟩ ls :=
  ⟨flat_seg encR_len hg hc hm, fun r hr => by
    obtain ⟨x, h1, h2, _, _, h5⟩ := h.inner r hr
    rw [h1]
    exact lent_ints h2 h5⟩

theorem spec.theodolitekeep_LendRows {s : Sl} {l : List Rw} {u : H} {K : Sl → H → Prop} (hs : Rws u s l) (hb : l.length ≤ 1000000) (hv : ∀ r ∈ l, r.v.length ≤ 1000000)
    (hK : ∀ g ls u', u.le u' → u g = none → u' g = some (rowsObj (ls ++ [markR])) → LentR u u' g ls → ls.map Rw.pr = l.map Rw.pr → K ⟨some ⟨g, 0, none⟩, l.length, l.length + 1⟩ u') : C.theodolitekeep_LendRows s u K := by
  have hn := hs.len
  have e1 : ((s.n : Int) + 1).toNat = l.length + 1 := by omega
  apply vc.theodolitekeep_LendRows
  refine ⟨⟨by omega, by omega⟩, sem_make tRows (by omega) (Int.le_refl _) (by omega) (by omega) fun g hg => ?_⟩
  rw [e1]
  have hmade : Obj.cells (madeCells [Value.int .i64 0, .slice none 0 0].toArray ((l.length + 1) * 2)) 49 (0, 0) = rowsObj (List.replicate (l.length + 1) ⟨0, ⟨none, 0, 0⟩, []⟩) := by
    have := made_flat encR_len (by decide) (⟨0, ⟨none, 0, 0⟩, []⟩ : Rw) (l.length + 1)
    unfold rowsObj objOf
    congr 1
    apply Array.ext'
    exact this
  rw [hmade]
  refine ⟨fun x v => 0 ≤ x ∧ ∃ ls rest : List Rw, ls.length = x.toNat ∧ ls.length + rest.length = l.length + 1 ∧ u.le v ∧ v g = some (rowsObj (ls ++ rest)) ∧ LentR u v g ls ∧ ls.map Rw.pr = (l.take x.toNat).map Rw.pr, fun x _ => s.n - x.toNat,
    ⟨by omega, [], _, rfl, by simp, H.le_ins _ hg, H.ins_same _ _ _, ⟨fun _ h => (by cases h), List.Pairwise.nil⟩, by simp⟩, ?_⟩
  rintro x v ⟨x0, ls, rest, hls, hlen, hle, hgv, hL, hsame⟩
  refine ⟨fun hx => ?_, fun hx => ?_⟩
  · obtain ⟨p, hp, r, hr, c0, c1, hvr⟩ := (hs.mono hle).at x0 hx
    have hrm := List.mem_of_getElem? hr
    refine ⟨p, hp, ⟨x0, hx⟩, p, hp, ⟨x0, hx⟩, _, c0, _, c1, spec.theodolitekeep_Lend hvr (hv r hrm) fun h hh => ⟨H.le_ins _ hh, _, rfl, ⟨x0, by dsimp only; omega⟩, ?_⟩⟩
    have hgh : g ≠ h := H.ne_of hgv hh
    obtain ⟨a, rest', rfl⟩ : ∃ a rest', rest = a :: rest' := by
      cases rest with
      | nil => simp at hlen; omega
      | cons a t => exact ⟨a, t, rfl⟩
    refine st_flat (y := ⟨r.id, ⟨some ⟨h, 0, none⟩, r.v.length, r.v.length + 1⟩, r.v⟩) encR_len (xs := ls ++ a :: rest') (by rw [H.ins_other _ _ hgh]; exact hgv) (by simp; omega) (encR_one _) ⟨⟨by omega, by omega⟩, ⟨by omega, ls ++ [⟨r.id, ⟨some ⟨h, 0, none⟩, r.v.length, r.v.length + 1⟩, r.v⟩], rest', ?_, ?_, ?_, ?_, ⟨?_, ?_⟩, ?_⟩, by dsimp only; omega⟩
    · simp; omega
    · simp at hlen ⊢; omega
    · exact H.le_out (hle.trans (H.le_ins _ hh)) hg _
    · rw [H.ins_same, ← hls, List.set_append_right _ _ (Nat.le_refl _), Nat.sub_self, List.set_cons_zero, List.append_assoc]
      rfl
    · intro r' hr'
      rcases List.mem_append.1 hr' with hr' | hr'
      · obtain ⟨h', i1, i2, i3, i4, i5⟩ := hL.inner r' hr'
        exact ⟨h', i1, by rw [H.ins_other _ _ i4, H.ins_other _ _ (H.ne_of i2 hh)]; exact i2, i3, i4, i5⟩
      · obtain rfl : r' = _ := by simpa using hr'
        exact ⟨h, rfl, by rw [H.ins_other _ _ (Ne.symm hgh), H.ins_same], hle.none hh, Ne.symm hgh, hv r hrm⟩
    · refine List.pairwise_append.2 ⟨hL.apart, List.pairwise_singleton _ _, fun a ha b hb => ?_⟩
      obtain rfl : b = _ := by simpa using hb
      obtain ⟨h', i1, i2, _⟩ := hL.inner a ha
      rw [i1]
      intro e
      exact H.ne_of i2 hh (by simpa [Sl.blk] using e)
    · rw [show (x + 1).toNat = x.toNat + 1 by omega, List.take_add_one, hr, List.map_append, List.map_append, hsame]
      rfl
  · have hx' : x.toNat = l.length ∨ l.length < x.toNat := by omega
    have hls' : ls.length = l.length := by
      have := congrArg List.length hsame
      simp at this
      omega
    obtain ⟨a, rfl⟩ : ∃ a, rest = [a] := by
      cases rest with
      | nil => simp at hlen; omega
      | cons a t => cases t with
        | nil => exact ⟨a, rfl⟩
        | cons b t => simp at hlen; omega
    refine ⟨_, rfl, ⟨by omega, by rw [hn]; dsimp only; omega⟩, ?_⟩
    rw [show (s.n : Int).toNat = l.length by omega]
    refine st_flat (y := markR) encR_len hgv (by simp; omega) (encR_one _) ?_
    rw [← hls', List.set_append_right _ _ (Nat.le_refl _), Nat.sub_self, List.set_cons_zero, hls']
    refine sem_slice (s := ⟨some ⟨g, 0, none⟩, l.length + 1, l.length + 1⟩) (l := 0) (h := l.length) (m := l.length + 1) tRows (.inl ⟨rfl, rfl⟩) (.inr (by rw [hn])) (.inl ⟨rfl, rfl⟩) (Nat.zero_le _) (by omega) (Nat.le_refl _) (Nat.le_refl _) ?_
    rw [part_front _ _ _ _ (by omega)]
    refine hK g ls _ (H.le_out hle hg _) hg (H.ins_same _ _ _) (hL.else fun b o hb h => by rw [H.ins_other _ _ hb]; exact h) ?_
    rw [hsame, List.take_of_length_le (by omega)]

theorem spec.theodolitekeep_BackRows {t : Sl} {l ls : List Rw} {g : Nat} {u0 u : H} {K : Bool → H → Prop} (hg : u g = some (rowsObj (ls ++ [markR]))) (h0 : u0 g = none) (hL : LentR u0 u g ls) (hle : u0.le u) (ht : Rws u0 t l)
    (hsame : ls.map Rw.pr = l.map Rw.pr) (hb : l.length ≤ 1000000)
    (hK : ∀ u', u0.le u' → (∀ b o, u b = some o → b ≠ g → (∀ r ∈ ls, r.s.blk ≠ some b) → u' b = some o) → K true u') : C.theodolitekeep_BackRows ⟨some ⟨g, 0, none⟩, l.length, l.length + 1⟩ t u K := by
  have hn := ht.len
  have hll : ls.length = l.length := by have := congrArg List.length hsame; simpa using this
  have e1 : (t.n : Int) + 1 = ((l.length + 1 : Nat) : Int) := by omega
  apply vc.theodolitekeep_BackRows
  refine ⟨⟨by omega, by omega⟩, ?_⟩
  rw [e1]
  refine sem_slice (s := ⟨some ⟨g, 0, none⟩, l.length, l.length + 1⟩) (l := 0) (h := l.length + 1) (m := l.length + 1) tRows (.inl ⟨rfl, rfl⟩) (.inr rfl) (.inl ⟨rfl, rfl⟩) (Nat.zero_le _) (Nat.le_refl _) (Nat.le_refl _) (Nat.le_succ _) ?_
  rw [part_all _ _ _ _ (by omega)]
  refine ⟨_, rfl, ⟨by omega, by dsimp only; omega⟩, -77, ?_, ?_⟩
  · rw [show (t.n : Int).toNat = l.length by omega]
    exact cell_flat0 (x := markR) encR_len hg (by rw [← hll]; simp) rfl
  rw [decide_eq_true rfl]
  refine ⟨fun b x v => b = true ∧ 0 ≤ x ∧ x.toNat ≤ l.length ∧ u0.le v ∧ (∃ dn : List Rw, dn.length = x.toNat ∧ v g = some (rowsObj (dn ++ (ls.drop x.toNat ++ [markR])))) ∧ LentR u0 v g (ls.drop x.toNat) ∧ (∀ b o, u b = some o → b ≠ g → (∀ r ∈ ls, r.s.blk ≠ some b) → v b = some o), fun _ x _ => l.length - x.toNat,
    ⟨rfl, by omega, by omega, hle, ⟨[], rfl, by simpa using hg⟩, by simpa using hL, fun _ _ h _ _ => h⟩, ?_⟩
  rintro b x v ⟨rfl, x0, xl, hlv, ⟨dn, hdn, hgv⟩, hLv, hel⟩
  refine ⟨fun hx => ?_, fun _ => hK v hlv hel⟩
  intro K9 hK9
  have hxl : x.toNat < ls.length := by omega
  obtain ⟨R, hR, hdrop⟩ : ∃ R, ls[x.toNat]? = some R ∧ ls.drop x.toNat = R :: ls.drop (x.toNat + 1) := ⟨_, List.getElem?_eq_getElem hxl, List.drop_eq_getElem_cons hxl⟩
  obtain ⟨p, hp, r, hr, c0, c1, hvr⟩ := (ht.mono hlv).at x0 hx
  have hpr : R.pr = r.pr := by
    have h1 : (ls.map Rw.pr)[x.toNat]? = some R.pr := by rw [List.getElem?_map, hR]; rfl
    rw [hsame, List.getElem?_map, hr] at h1
    exact (Option.some.inj h1).symm
  have hid : R.id = r.id := congrArg Prod.fst hpr
  have hvv : R.v = r.v := congrArg Prod.snd hpr
  have hat : (dn ++ (ls.drop x.toNat ++ [markR]))[x.toNat]? = some R := by
    rw [List.getElem?_append_right (by omega), hdn, Nat.sub_self, hdrop]; rfl
  have hxn : x < ((l.length + 1 : Nat) : Int) := by omega
  obtain ⟨h, i1, i2, i3, i4, i5⟩ := hLv.inner R (by rw [hdrop]; exact List.mem_cons_self ..)
  refine ⟨fun _ => ⟨_, rfl, ⟨x0, hxn⟩, p, hp, ⟨x0, hx⟩, _, cell_flat0 encR_len hgv hat rfl, _, c0, fun _ => ⟨_, rfl, ⟨x0, hxn⟩, p, hp, ⟨x0, hx⟩, R.s, cell_flat (j := 1) encR_len hgv hat rfl, _, c1, ?_⟩, fun hne => absurd hid hne⟩, fun hb => by cases hb⟩
  rw [i1]
  refine spec.theodolitekeep_Back i2 (by rw [hvv]; exact hvr) i5 fun o => hK9 _ _ ⟨_, rfl, ⟨x0, hxn⟩, ?_⟩
  refine st_flat (y := ⟨5, ⟨none, 0, 0⟩, []⟩) encR_len (xs := dn ++ (ls.drop x.toNat ++ [markR])) (by rw [H.ins_other _ _ (Ne.symm i4)]; exact hgv) (by simp; omega) (encR_one _) ⟨⟨by omega, by omega⟩, ⟨rfl, by omega, by omega, ?_, ⟨dn ++ [⟨5, ⟨none, 0, 0⟩, []⟩], ?_, ?_⟩, ⟨?_, ?_⟩, ?_⟩, by dsimp only; omega⟩
  · exact H.le_out (H.le_out hlv i3 _) h0 _
  · simp; omega
  · rw [H.ins_same, hdrop, ← hdn, List.set_append_right _ _ (Nat.le_refl _), Nat.sub_self, List.cons_append, List.set_cons_zero, hdn, show (x + 1).toNat = x.toNat + 1 by omega]
    simp
  · intro r' hr'
    rw [show (x + 1).toNat = x.toNat + 1 by omega] at hr'
    obtain ⟨h', j1, j2, j3, j4, j5⟩ := hLv.inner r' (by rw [hdrop]; exact List.mem_cons_of_mem _ hr')
    have hne : h' ≠ h := fun e => by
      have hap := hLv.apart
      rw [hdrop] at hap
      exact (List.pairwise_cons.1 hap).1 r' hr' (by rw [i1, j1, e]; rfl)
    exact ⟨h', j1, by rw [H.ins_other _ _ j4, H.ins_other _ _ hne]; exact j2, j3, j4, j5⟩
  · rw [show (x + 1).toNat = x.toNat + 1 by omega]
    have hap := hLv.apart
    rw [hdrop] at hap
    exact (List.pairwise_cons.1 hap).2
  · intro b o hbo hbg hbr
    have hbh : b ≠ h := fun e => hbr R (List.mem_of_getElem? hR) (by rw [i1, e]; rfl)
    rw [H.ins_other _ _ hbg, H.ins_other _ _ hbh]
    exact hel b o hbo hbg hbr

end Go.Proofs.YtgfafpiinencpaaGreat
