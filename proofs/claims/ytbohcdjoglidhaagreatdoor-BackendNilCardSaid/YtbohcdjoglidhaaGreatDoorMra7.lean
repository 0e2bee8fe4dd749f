/- Texts of mine, joined by merge.py: VcSearch, VcLawA, VcOpen, VcMul, VcMul2, VcLend, VcIntsPure, VcPure2, VcLawE, VcObey, VcFrame, VcRoot, VcSpoil, VcSure, VcNear, VcHeapF, VcWalkP, VcQue. -/
import Derived.Test.YtbohcdjoglidhaaGreatDoorMra6
import Derived.SizedLaws
import Derived.Deep.Slices
import Derived.ChangeSame
import Derived.ChangeOld
import Derived.OpenShut
import Derived.ProofKit
import Derived.WalkKit
import Derived.JoinedOf
import Derived.Laws.IdiomCopy
set_option maxRecDepth 100000

/- VcSearch -/
namespace Go.Proofs.YtbohcdjoglidhaaGreatDoor

theorem tRows : elemT Tryz.prog 43 = some (24, 2, 32, [.int .i64 0, .slice none 0 0]) := by kernel_rfl

theorem Rws.part {u : H} {s : Sl} {L : List Rw} (hs : Rws u s L) {l h m : Nat} (h1 : l ≤ h) (h2 : h ≤ s.n) (h3 : h ≤ m) (h4 : m ≤ s.c) : Rws u (s.part l h m 2) ((L.drop l).take (h - l)) := by
  refine ⟨?_, fun r hr => hs.2 r (List.mem_of_mem_drop (List.mem_of_mem_take hr))⟩
  have := Seg.part hs.1 h1 h2 h3 h4
  rw [flat_drop encR_len, flat_take encR_len] at this
  exact this

theorem Rok.sub {l l' : List Rw} {d : Int} (h : Rok l d) (hs : l'.Sublist l) : Rok l' d :=
  ⟨h.dim, Nat.le_trans hs.length_le h.len, fun r hr => h.id r (hs.mem hr), h.nodup.sublist (hs.map _), fun r hr => h.v r (hs.mem hr)⟩

theorem Qok.sub {l l' : List Rw} {q : List Int} (h : Qok l q) (hs : l'.Sublist l) : Qok l' q := ⟨h.vq, h.rows.sub hs⟩

theorem build_region (a b c : Sl) (x y z : Int) : buildOf Tryz.prog 35 1 #[(0, .agg #[.int .i64 x, .slice a.a a.n a.c, .slice b.a b.n b.c, .int .u64 y, .int .u64 z, .slice c.a c.n c.c])] =
    some (69, [.int .i64 x, .slice a.a a.n a.c, .slice b.a b.n b.c, .int .u64 y, .int .u64 z, .slice c.a c.n c.c]) := by kernel_rfl

/-- An answer in memory: its hits, what was seen, what was left (a box of these rows, or nothing). -/
structure AnsAt (u0 u : H) (sh ss sr : Sl) (hits : List Hit) (seen : List Int) (rest : List Rw) : Prop where
  h : OwnF u0 u 63 3 sh (hits.flatMap encH)
  s : OwnF u0 u 3 1 ss (seen.flatMap encI)
  hs : ∀ g, sh.blk = some g → ss.blk ≠ some g
  r : (rest = [] ∧ sr = ⟨none, 0, 0⟩) ∨ rest ≠ [] ∧ sr.n = 1 ∧ ∃ a b c : Sl, OwnF u0 u 69 6 sr [.int .i64 2, .slice a.a a.n a.c, .slice b.a b.n b.c, .int .u64 0, .int .u64 0, .slice c.a c.n c.c] ∧
    OwnF u0 u 3 1 a ((boxLo rest).flatMap encI) ∧ OwnF u0 u 3 1 b ((boxHi rest).flatMap encI) ∧ OwnF u0 u 3 1 c ((sortI (rest.map (·.id))).flatMap encI) ∧
    a.blk ≠ b.blk ∧ a.blk ≠ c.blk ∧ b.blk ≠ c.blk ∧ (∀ x ∈ [a, b, c], ∀ g, x.blk = some g → sh.blk ≠ some g ∧ ss.blk ≠ some g ∧ sr.blk ≠ some g) ∧ (∀ g, sr.blk = some g → sh.blk ≠ some g ∧ ss.blk ≠ some g)

theorem own_known {u0 u : H} {e k : Nat} {s : Sl} {xs : List Value} (h : OwnF u0 u e k s xs) {g : Nat} (hg : s.blk = some g) : u g ≠ none := by
  rcases h.own.is with h0 | ⟨g', cur, ha, hg', _⟩
  · rw [h0] at hg; simp [Sl.blk] at hg
  · have : g' = g := by simpa [Sl.blk, ha] using hg
    rw [← this, hg']; simp

end Go.Proofs.YtbohcdjoglidhaaGreatDoor

/- VcLawA -/
namespace Go.Proofs.YtbohcdjoglidhaaGreatDoor

/-- Rows and a vector as they come in. -/
structure Come (u : H) (s t : Sl) (l : List Rw) (q : List Int) : Prop where
  rows : Rws u s l
  q : Ints u t q
  small : ∀ r ∈ l, r.v.length ≤ 17592186044416
  sn : s.n ≤ 17592186044416

theorem Come.mono {u u' : H} {s t : Sl} {l : List Rw} {q : List Int} (h : Come u s t l q) (k : u.le u') : Come u' s t l q := ⟨h.rows.mono k, h.q.mono k, h.small, h.sn⟩

/-! ### within a radius -/

theorem Hts.part {u : H} {s : Sl} {L : List Hit} (hs : Hts u s L) {l h m : Nat} (h1 : l ≤ h) (h2 : h ≤ s.n) (h3 : h ≤ m) (h4 : m ≤ s.c) : Hts u (s.part l h m 3) ((L.drop l).take (h - l)) := by
  have := Seg.part hs h1 h2 h3 h4
  rw [flat_drop encH_len, flat_take encH_len] at this
  exact this

/-! ### the document's examples -/

end Go.Proofs.YtbohcdjoglidhaaGreatDoor

/- VcOpen -/
namespace Go.Proofs.YtbohcdjoglidhaaGreatDoor
open Go.ChangeShapes Go.WideShapes Go.ChangeAt Go.RowKit

/-- All that lies in memory. -/
def whole (W : World) : H := fun b => W.heap[b]?

theorem whole_sub (W : World) : Sub (whole W) W := fun _ _ e => e
theorem whole_cell (W : World) (a : Addr) : (whole W).cell? a = W.cell? a := rfl

theorem Step.below {W W' : World} {u' : H} {bs : List Nat} (h : Step (whole W) [] W u' bs W') (k : (whole W).le u') : Below W.heap.size W W' :=
  ⟨h.os, h.tape, h.output, h.size, fun b hb => by
    have : W.heap[b]? = some W.heap[b] := Array.getElem?_eq_getElem hb
    rw [this]
    exact h.sub b _ (k b _ this)⟩

theorem cells3o : Tryz.prog.cellsOf 3 = 1 := by kernel_rfl
theorem cells23o : Tryz.prog.cellsOf 22 = 1 := by kernel_rfl
theorem cells41o : Tryz.prog.cellsOf 24 = 2 := by kernel_rfl
theorem cells24o : Tryz.prog.cellsOf 57 = 1 := by kernel_rfl
theorem cells26o : Tryz.prog.cellsOf 61 = 2 := by kernel_rfl
theorem bytes3o : Tryz.prog.bytesOf 3 = 8 := by kernel_rfl
theorem bytes41o : Tryz.prog.bytesOf 24 = 32 := by kernel_rfl

section
variable {H' : Type} {enc : TypeId × Value → H'}

/-- Numbers, opened. -/
theorem open_q {W : World} {a : Option Addr} {len cap fuel : Nat} {x : DataW H' × List MemPlace} (h : DataW.trod enc Tryz.prog W 0 (fun _ => true) true fuel 22 [.slice a len cap] = some x) (hw : ∀ n ∈ x.1.weights Tryz.prog 22, n ≤ reachBytes) :
    ∃ q : List Int, Ints (whole W) ⟨a, len, cap⟩ q ∧ q.length ≤ 17592186044416 := by
  have hr : reachBytes = 140737488351232 := by decide
  rcases open_ints Tryz.underlying22 Tryz.underlying3 cells3o h with ⟨hcs, _⟩ | ⟨p, l, c, zs, hcs, _, hl, hm, hz, hx, hcell, hwz⟩
  · simp only [List.cons.injEq, Value.slice.injEq, and_true] at hcs
    obtain ⟨rfl, rfl, rfl⟩ := hcs
    exact ⟨[], ⟨rfl, Nat.le_refl _, by simp, .inl rfl⟩, by simp⟩
  · simp only [List.cons.injEq, Value.slice.injEq, and_true] at hcs
    obtain ⟨rfl, rfl, rfl⟩ := hcs
    simp only [if_true] at hz
    rw [maxLen_eq] at hm
    have hlt : (zs.take len).length = len := by simp; omega
    have hb : zs.length * 8 ≤ reachBytes := by
      have := hw (zs.length * 8) (by
        rw [hx]
        simp only [DataW.weights, show Tryz.prog.underlying 22 = some (.slice 3) from Tryz.underlying22, List.mem_cons]
        left
        rw [bytes3o]
        congr 1
        simp [lits]
        omega)
      exact this
    refine ⟨zs.take len, ⟨by simp; omega, hl, hm, .inr ⟨p, rfl, fun i v e => ?_⟩⟩, by omega⟩
    rw [List.getElem?_map] at e
    rw [whole_cell]
    have hi : i < len := by
      rcases Nat.lt_or_ge i len with k | k
      · exact k
      · rw [List.getElem?_eq_none (by omega)] at e; simp at e
    rw [List.getElem?_take, if_pos hi, List.getElem?_eq_getElem (by omega)] at e
    simp only [Option.map_some, Option.some.injEq] at e
    subst e
    rw [hcell i (by omega), List.getD_eq_getElem?_getD, List.getElem?_eq_getElem (by omega)]
    rfl

instance : Inhabited Rw := ⟨⟨0, ⟨none, 0, 0⟩, []⟩⟩

theorem cells_one {W : World} {v : Value} {fuel : Nat} {x : DataW H' × List MemPlace} (h : DataW.trod enc Tryz.prog W 0 (fun _ => true) true fuel 22 [v] = some x) : ∃ s : Sl, v = .slice s.a s.n s.c := by
  rcases open_ints Tryz.underlying22 Tryz.underlying3 cells3o h with ⟨hcs, _⟩ | ⟨p, l, c, zs, hcs, _⟩
  · exact ⟨⟨none, 0, 0⟩, by simpa using hcs⟩
  · exact ⟨⟨some p, l, c⟩, by simpa using hcs⟩

end

end Go.Proofs.YtbohcdjoglidhaaGreatDoor

/- VcMul -/
namespace Go.Proofs.YtbohcdjoglidhaaGreatDoor

def Dig (d : List Int) : Prop := d.length = 8 ∧ ∀ x ∈ d, 0 ≤ x ∧ x < 65536

theorem Dig.set {d : List Int} (h : Dig d) {i : Nat} {x : Int} (h0 : 0 ≤ x) (h1 : x < 65536) : Dig (d.set i x) :=
  ⟨by rw [List.length_set]; exact h.1, fun y hy => by
    rcases List.mem_or_eq_of_mem_set hy with h2 | h2
    · exact h.2 y h2
    · omega⟩

theorem Dig.get {d : List Int} (h : Dig d) {i : Nat} (hi : i < 8) : 0 ≤ d.getD i 0 ∧ d.getD i 0 < 65536 := by
  have hl : i < d.length := by rw [h.1]; exact hi
  rw [List.getD_eq_getElem?_getD, List.getElem?_eq_getElem hl]
  exact h.2 _ (List.getElem_mem hl)

end Go.Proofs.YtbohcdjoglidhaaGreatDoor

/- VcMul2 -/
namespace Go.Proofs.YtbohcdjoglidhaaGreatDoor

end Go.Proofs.YtbohcdjoglidhaaGreatDoor

/- VcLend -/
namespace Go.Proofs.YtbohcdjoglidhaaGreatDoor

/-! ### blocks of cells of which all is known -/

section
variable {α : Type} {enc : α → List Value} {k : Nat}

theorem made_flat (hk : ∀ x, (enc x).length = k) (hk0 : 0 < k) (a : α) (m : Nat) : (madeCells (enc a).toArray (m * k)).toList = (List.replicate m a).flatMap enc := by
  apply List.ext_getElem?
  intro i
  by_cases hi : i < m * k
  · have e : i = i / k * k + i % k := by rw [Nat.mul_comm]; exact (Nat.div_add_mod i k).symm
    have hm : i % k < k := Nat.mod_lt _ hk0
    have hd : i / k < m := Nat.div_lt_of_lt_mul (by rw [Nat.mul_comm]; exact hi)
    have hr : ((List.replicate m a).flatMap enc)[i]? = (enc a)[i % k]? := by
      conv => lhs; rw [e]
      rw [flat_get hk _ _ _ hm, List.getElem?_replicate, if_pos hd]
      rfl
    rw [hr]
    have hm' : i % k < (enc a).length := by rw [hk]; exact hm
    simp [madeCells, hi, hk, hm]
  · rw [List.getElem?_eq_none (by simp [size_madeCells]; omega), List.getElem?_eq_none (by rw [flat_len hk]; simp; omega)]

/-- Elements in a block of their own. -/
def objOf (enc : α → List Value) (xs : List α) (T : TypeId) : Obj := .cells (xs.flatMap enc).toArray T (0, 0)

theorem flat_seg (hk : ∀ x, (enc x).length = k) {u : H} {g : Nat} {xs ys : List α} {T : TypeId} (hg : u g = some (objOf enc (xs ++ ys) T)) {c : Nat} (hc : xs.length ≤ c) (hm : c ≤ 9223372036854775807) :
    Seg u ⟨some ⟨g, 0, none⟩, xs.length, c⟩ k (xs.flatMap enc) := by
  refine ⟨flat_len hk xs, hc, hm, .inr ⟨_, rfl, fun i v e => ?_⟩⟩
  rw [Addr.add_lit, Nat.zero_add, H.cell?_of hg, List.getElem?_toArray, List.flatMap_append, List.getElem?_append_left ((List.getElem?_eq_some_iff.1 e).1)]
  exact e

end

theorem H.ins_self {u : H} {g : Nat} {o : Obj} (h : u g = some o) : u.ins g o = u := by
  funext x
  unfold H.ins
  split
  · rename_i hx; rw [hx, h]
  · rfl

/-! ### numbers -/

abbrev lentObj (q : List Int) : Obj := objOf encI (q ++ [-77]) 3

theorem lent_ints {u : H} {g : Nat} {q : List Int} (h : u g = some (lentObj q)) (hb : q.length ≤ 1000000) : Ints u ⟨some ⟨g, 0, none⟩, q.length, q.length + 1⟩ q := by
  have := flat_seg encI_len h (c := q.length + 1) (by omega) (by omega)
  rw [flatI] at this
  exact this

theorem spec.theodolitekeep_Ints {s t : Sl} {a b : List Int} {u : H} {K : Bool → H → Prop} (hs : Ints u s a) (ht : Ints u t b) (h : K (decide (a = b)) u) : C.theodolitekeep_Ints s t u K := by
  have key : ∀ z, decide (a = b) = z → K z u := fun z e => e ▸ h
  have hn := hs.len
  have hm := ht.len
  have hmx := hs.max
  apply vc.theodolitekeep_Ints
  refine ⟨fun hne => key _ ?_, fun he => ?_⟩
  · have : a ≠ b := fun e => hne (by rw [hn, hm, e])
    simp [this]
  · refine ⟨fun _ i v => v = u ∧ 0 ≤ i ∧ i ≤ (s.n : Int) ∧ a.take i.toNat = b.take i.toNat, fun _ i _ => s.n - i.toNat, ⟨rfl, by omega, by omega, by simp⟩, ?_⟩
    rintro _ i v ⟨rfl, h0, h1, hp⟩
    refine ⟨fun hi => ?_, fun hi => key _ ?_⟩
    · obtain ⟨p, hp1, c0⟩ := hs.at h0 hi
      obtain ⟨q, hq1, d0⟩ := ht.at h0 (show i < (t.n : Int) by omega)
      have ia : i.toNat < a.length := by omega
      have ib : i.toNat < b.length := by omega
      have ga : a.getD i.toNat 0 = a[i.toNat] := by simp [List.getD_eq_getElem?_getD, ia]
      have gb : b.getD i.toNat 0 = b[i.toNat] := by simp [List.getD_eq_getElem?_getD, ib]
      refine ⟨p, hp1, ⟨h0, hi⟩, q, hq1, ⟨h0, by omega⟩, _, c0, _, d0, fun hne => key _ ?_, fun hxy => ⟨⟨by omega, by omega⟩, ⟨rfl, by omega, by omega, ?_⟩, by dsimp only; omega⟩⟩
      · have : a ≠ b := fun e => hne (by rw [e])
        simp [this]
      · rw [ga, gb] at hxy
        have e1 : (i + 1).toNat = i.toNat + 1 := by omega
        rw [e1, List.take_add_one, List.take_add_one, hp, List.getElem?_eq_getElem ia, List.getElem?_eq_getElem ib, hxy]
    · have e1 : i.toNat = a.length := by omega
      rw [e1, List.take_length, ← hn, show s.n = b.length by omega, List.take_length] at hp
      simp [hp]

/-! ### rows -/

/-- What a row tells. -/
def Rw.pr (r : Rw) : Int × List Int := (r.id, r.v)

abbrev rowsObj (ls : List Rw) : Obj := objOf encR ls 24

/-- The vectors of rows that are lent. -/
structure LentR (u0 u : H) (g : Nat) (ls : List Rw) : Prop where
  inner : ∀ r ∈ ls, ∃ h, r.s = ⟨some ⟨h, 0, none⟩, r.v.length, r.v.length + 1⟩ ∧ u h = some (lentObj r.v) ∧ u0 h = none ∧ h ≠ g ∧ r.v.length ≤ 1000000
  apart : ls.Pairwise fun a b => a.s.blk ≠ b.s.blk

theorem LentR.else {u0 u u' : H} {g : Nat} {ls : List Rw} (h : LentR u0 u g ls) (he : ∀ b o, b ≠ g → u b = some o → u' b = some o) : LentR u0 u' g ls :=
  ⟨fun r hr => by obtain ⟨x, h1, h2, h3, h4, h5⟩ := h.inner r hr; exact ⟨x, h1, he _ _ h4 h2, h3, h4, h5⟩, h.apart⟩

theorem LentR.rws {u0 u : H} {g : Nat} {ls ms : List Rw} (h : LentR u0 u g ls) (hg : u g = some (rowsObj (ls ++ ms))) {c : Nat} (hc : ls.length ≤ c) (hm : c ≤ 9223372036854775807) : Rws u ⟨some ⟨g, 0, none⟩, ls.length, c⟩ ls :=
  ⟨flat_seg encR_len hg hc hm, fun r hr => by
    obtain ⟨x, h1, h2, _, _, h5⟩ := h.inner r hr
    rw [h1]
    exact lent_ints h2 h5⟩

end Go.Proofs.YtbohcdjoglidhaaGreatDoor

/- VcIntsPure -/
namespace Go.Proofs.YtbohcdjoglidhaaGreatDoor

/-- Rising, and rising strictly. -/
def Up (l : List Int) : Prop := l.Pairwise (· ≤ ·)
def Rise (l : List Int) : Prop := l.Pairwise (· < ·)

theorem Rise.up {l : List Int} (h : Rise l) : Up l := h.imp fun h => Int.le_of_lt h

theorem sortI_perm (l : List Int) : (sortI l).Perm l := List.mergeSort_perm l _

theorem sortI_up (l : List Int) : Up (sortI l) := by
  have := List.pairwise_mergeSort (le := fun x y : Int => decide (x ≤ y)) (fun a b c h1 h2 => by simp at *; omega) (fun a b => by simp; omega) l
  exact this.imp fun h => by simpa using h

theorem sortI_len (l : List Int) : (sortI l).length = l.length := (sortI_perm l).length_eq

theorem Up.eq {a b : List Int} (ha : Up a) (hb : Up b) (h : a.Perm b) : a = b := by
  induction a generalizing b with
  | nil => exact (List.Perm.nil_eq h)
  | cons x a ih =>
    cases b with
    | nil => exact absurd h.length_eq (by simp)
    | cons y b =>
      have hxa := List.pairwise_cons.1 ha
      have hyb := List.pairwise_cons.1 hb
      have hxy : x = y := by
        have h1 : x ∈ y :: b := h.mem_iff.1 (List.mem_cons_self ..)
        have h2 : y ∈ x :: a := h.mem_iff.2 (List.mem_cons_self ..)
        rcases List.mem_cons.1 h1 with e | h1
        · exact e
        · rcases List.mem_cons.1 h2 with e | h2
          · exact e.symm
          · have := hyb.1 x h1
            have := hxa.1 y h2
            omega
      subst hxy
      rw [ih hxa.2 hyb.2 (List.Perm.cons_inv h)]

theorem sortI_rise {l : List Int} (h : l.Nodup) : Rise (sortI l) := by
  have h1 := sortI_up l
  have h2 : (sortI l).Nodup := (sortI_perm l).nodup_iff.2 h
  exact (h1.and h2).imp fun ⟨a, b⟩ => by omega

/-! ### rows by their ids -/

/-- Of two lists out of rows whose ids come once, those with the same ids are the same rows. -/
theorem rows_perm {l a b : List Rw} (hl : (l.map (·.id)).Nodup) (ha : ∀ r ∈ a, r ∈ l) (hb : ∀ r ∈ b, r ∈ l) (h : (a.map (·.id)).Perm (b.map (·.id))) : a.Perm b := by
  have inj : ∀ {l : List Rw}, (l.map (·.id)).Nodup → ∀ r ∈ l, ∀ r' ∈ l, r.id = r'.id → r = r' := by
    intro l
    induction l with
    | nil => intro _ r hr; cases hr
    | cons x l ih =>
      intro hn r hr r' hr' e
      have h2 := List.nodup_cons.1 hn
      rcases List.mem_cons.1 hr with h1 | h1
      · rcases List.mem_cons.1 hr' with h3 | h3
        · rw [h1, h3]
        · exact (h2.1 (List.mem_map.2 ⟨r', h3, by rw [← e, h1]⟩)).elim
      · rcases List.mem_cons.1 hr' with h3 | h3
        · exact (h2.1 (List.mem_map.2 ⟨r, h1, by rw [e, h3]⟩)).elim
        · exact ih h2.2 r h1 r' h3 e
  let f : Int → Rw := fun x => (l.find? fun r => r.id == x).getD ⟨0, ⟨none, 0, 0⟩, []⟩
  have hf : ∀ r ∈ l, f r.id = r := by
    intro r hr
    show (l.find? fun r' => r'.id == r.id).getD _ = r
    cases hfind : l.find? fun r' => r'.id == r.id with
    | none => exact absurd (List.find?_eq_none.1 hfind r hr) (by simp)
    | some r' =>
      have h1 := List.find?_some hfind
      have h2 := List.mem_of_find?_eq_some hfind
      exact inj hl r' h2 r hr (by simpa using h1)
  have hm : ∀ {c : List Rw}, (∀ r ∈ c, r ∈ l) → (c.map (·.id)).map f = c := by
    intro c hc
    rw [List.map_map]
    conv => rhs; rw [← List.map_id c]
    exact List.map_congr_left fun r hr => hf r (hc r hr)
  have := h.map f
  rw [hm ha, hm hb] at this
  exact this

/-! ### boxes -/

end Go.Proofs.YtbohcdjoglidhaaGreatDoor

/- VcPure2 -/
namespace Go.Proofs.YtbohcdjoglidhaaGreatDoor

/-- Ids that come once. -/
def Once (l : List Hit) : Prop := (l.map (·.1)).Nodup

theorem Once.perm {a b : List Hit} (h : Once a) (hp : a.Perm b) : Once b := (hp.map _).nodup h
theorem Once.topk {k : Nat} {l : List Hit} (h : Once l) : Once (topk k l) :=
  List.Nodup.sublist (List.Sublist.map _ (List.take_sublist _ _)) (h.perm (sortH_perm l).symm)

theorem Once.eq {l : List Hit} (h : Once l) {a b : Hit} (ha : a ∈ l) (hb : b ∈ l) (e : a.1 = b.1) : a = b := by
  induction l with
  | nil => cases ha
  | cons x l ih =>
    have h2 := List.nodup_cons.1 h
    rcases List.mem_cons.1 ha with hax | ha
    · rcases List.mem_cons.1 hb with hbx | hb
      · rw [hax, hbx]
      · exact absurd (List.mem_map.2 ⟨b, hb, by show b.1 = x.1; rw [← e, hax]⟩) h2.1
    · rcases List.mem_cons.1 hb with hbx | hb
      · exact absurd (List.mem_map.2 ⟨a, ha, by show a.1 = x.1; rw [e, hbx]⟩) h2.1
      · exact ih h2.2 ha hb

/-- What a search for the first k answers. -/
def TopRes (u u' : H) (l : List Rw) (q : List Int) (k : Int) (s : Sl) (e : Int) : Prop :=
  u.le u' ∧ ((e = topErr l q k ∧ e ≠ 0 ∧ s = ⟨none, 0, 0⟩) ∨ (e = 0 ∧ topErr l q k = 0 ∧ Qok l q ∧ 1 ≤ k ∧ k ≤ 64 ∧ OwnF u u' 63 3 s ((topk k.toNat (l.map (hitOf q))).flatMap encH)))

/-- The hits that it answers, an error or not. -/
theorem TopRes.hts {u u' : H} {l : List Rw} {q : List Int} {k : Int} {s : Sl} {e : Int} (h : TopRes u u' l q k s e) : ∃ L, Hts u' s L ∧ L.length ≤ 64 ∧ (e = 0 → L = topk k.toNat (l.map (hitOf q))) ∧ (e ≠ 0 → L = []) := by
  rcases h.2 with ⟨_, h1, rfl⟩ | ⟨h0, _, _, _, k2, ho⟩
  · exact ⟨[], (OwnF.nil (H.le.refl u') 0 3).own.seg, by simp, fun h => absurd h h1, fun _ => rfl⟩
  · exact ⟨_, ho.hts, by rw [topk_len]; omega, fun _ => rfl, fun h => absurd h0 h⟩

end Go.Proofs.YtbohcdjoglidhaaGreatDoor

/- VcLawE -/
namespace Go.Proofs.YtbohcdjoglidhaaGreatDoor

theorem spec.theodolitekeep_Vectors' {s : Sl} {l : List Rw} {m : Int} {u : H} {K : Int → H → Prop} (hs : Rws u s l) (hb : ∀ r ∈ l, r.v.length ≤ 17592186044416) (hl : s.n ≤ 17592186044416) (hm : m ≤ 1000000) (h : ∀ x, (x ≤ m → ∀ r ∈ l, (r.v.length : Int) ≤ m) → K x u) : C.theodolitekeep_Vectors s m u K := by
  have hn := hs.len
  apply vc.theodolitekeep_Vectors
  refine ⟨fun x i v => v = u ∧ 0 ≤ i ∧ i ≤ (s.n : Int) ∧ 0 ≤ x ∧ ∀ r ∈ l.take i.toNat, (r.v.length : Int) ≤ x, fun _ i _ => s.n - i.toNat, ⟨rfl, by omega, by omega, by omega, fun r hr => by simp at hr⟩, ?_⟩
  rintro x i v ⟨rfl, i0, i1, x0, hx0⟩
  intro K5 hK5
  refine ⟨fun hi => ⟨fun hx => hK5 _ ?_, fun hx => h x fun h => absurd h hx⟩, fun hi => h x fun hxm r hr => ?_⟩
  · obtain ⟨p, hp, r, hr, c0, c1, hv⟩ := hs.at i0 hi
    have hrm := List.mem_of_getElem? hr
    have := hb r hrm
    have hvn := hv.len
    refine ⟨p, hp, ⟨i0, hi⟩, _, c1, ⟨by omega, by omega⟩, ⟨by omega, by omega⟩, ⟨rfl, by omega, by omega, by omega, fun r' hr' => ?_⟩, by dsimp only; omega⟩
    rw [show (i + 1).toNat = i.toNat + 1 by omega, List.take_add_one, hr] at hr'
    rcases List.mem_append.1 hr' with h' | h'
    · have := hx0 r' h'
      omega
    · obtain rfl : r' = r := by simpa using h'
      omega
  · have := hx0 r (by rw [List.take_of_length_le (by omega)]; exact hr)
    omega

/-! ### what hangs on ids and vectors alone -/

/-! ### the document's first k -/

/-- Where what is new stays, the hits stay. -/
theorem TopRes.else {u u' u'' : H} {l : List Rw} {q : List Int} {k : Int} {s : Sl} {e : Int} (h : TopRes u u' l q k s e) (he : ∀ b o, u b = none → u' b = some o → u'' b = some o) :
    ∃ L, Hts u'' s L ∧ (e = 0 → L = topk k.toNat (l.map (hitOf q))) ∧ (e ≠ 0 → L = []) := by
  rcases h.2 with ⟨_, h1, rfl⟩ | ⟨h0, _, _, _, _, ho⟩
  · exact ⟨[], (OwnF.nil (H.le.refl u'') 0 3).own.seg, fun h => absurd h h1, fun _ => rfl⟩
  · exact ⟨_, (ho.own.le (u' := u'') fun b o hb hu => he b o (ho.fresh b hb) hu).seg, fun _ => rfl, fun h => absurd h0 h⟩

end Go.Proofs.YtbohcdjoglidhaaGreatDoor

/- VcObey -/
namespace Go.Proofs.YtbohcdjoglidhaaGreatDoor

theorem sem_appendF {P : Program} {t ty e : TypeId} {size bytes : Nat} {zs : List Value} (hT : elemT P t = some (e, size, bytes, zs)) (hsz : 0 < size) {s x : Sl} {xs ys : List Value} {u0 u : H} {K : Sl → H → Prop}
    (ho : OwnF u0 u e size s xs) (hx : Seg u x size ys) (h1 : ∀ y ∈ ys, y.oneCell' = true) (hm : s.n + x.n ≤ 9223372036854775807) (hb : (s.n + x.n) * bytes ≤ 140737488355328)
    (hK : ∀ s' u', OwnF u0 u' e size s' (xs ++ ys) → s'.n = s.n + x.n → K s' u') :
    SemT P (Builtin.append_ #[t, t] ty #[.slice s.a s.n s.c, .slice x.a x.n x.c]) [.one .slice] u K :=
  sem_append hT hsz ho.own hx h1 hm hb fun s' u' h2 h3 hgr _ => hK s' u' ⟨h2, hgr.le ho.le ho.fresh, fun g' hg' => hgr.out ho.le ho.fresh g' hg'⟩ h3

theorem Ints.part {u : H} {s : Sl} {L : List Int} (hs : Ints u s L) {l h m : Nat} (h1 : l ≤ h) (h2 : h ≤ s.n) (h3 : h ≤ m) (h4 : m ≤ s.c) : Ints u (s.part l h m 1) ((L.drop l).take (h - l)) := by
  have := Seg.part hs h1 h2 h3 h4
  rw [Nat.mul_one, Nat.mul_one, ← List.map_drop, ← List.map_take] at this
  exact this

theorem Ints.nil (u : H) : Ints u ⟨none, 0, 0⟩ [] := (OwnF.nil (H.le.refl u) 0 1).own.seg

theorem Ints.get {u : H} {s : Sl} {L : List Int} (hs : Ints u s L) {x : Int} (h0 : 0 ≤ x) (h1 : x < (s.n : Int)) : ∃ p, s.a = some p ∧ ∃ y, L[x.toNat]? = some y ∧ u.cell? (p.add (x.toNat * 1)) = some (.int .i64 y) := by
  obtain ⟨p, hp, hc⟩ := hs.at h0 h1
  have hn := hs.len
  have hl : x.toNat < L.length := by omega
  refine ⟨p, hp, L[x.toNat], List.getElem?_eq_getElem hl, ?_⟩
  rw [hc]
  simp [List.getD_eq_getElem?_getD, hl]

/-! ### rows and numbers -/

/-! ### regions -/

structure Rgn where
  sh : Int
  ls : Sl
  hs : Sl
  rad : Int
  is : Sl
  lo : List Int
  hi : List Int
  ids : List Int

def encG (r : Rgn) : List Value := [.int .i64 r.sh, .slice r.ls.a r.ls.n r.ls.c, .slice r.hs.a r.hs.n r.hs.c, .int .u64 (hiW r.rad), .int .u64 (loW r.rad), .slice r.is.a r.is.n r.is.c]
theorem encG_len (r : Rgn) : (encG r).length = 6 := rfl
theorem encG_one (r : Rgn) : ∀ v ∈ encG r, v.oneCell' = true := by simp [encG, Value.oneCell']

def Rgs (u : H) (s : Sl) (l : List Rgn) : Prop := Seg u s 6 (l.flatMap encG) ∧ ∀ r ∈ l, Ints u r.ls r.lo ∧ Ints u r.hs r.hi ∧ Ints u r.is r.ids

theorem Rgs.len {u : H} {s : Sl} {l : List Rgn} (h : Rgs u s l) : s.n = l.length := flat_n encG_len (by decide) h.1
theorem Rgs.max {u : H} {s : Sl} {l : List Rgn} (h : Rgs u s l) : s.n ≤ 9223372036854775807 := Nat.le_trans (Seg.cap h.1) (Seg.max h.1)
theorem Rgs.mono {u u' : H} {s : Sl} {l : List Rgn} (h : Rgs u s l) (k : u.le u') : Rgs u' s l := ⟨Seg.mono h.1 k, fun r hr => ⟨(h.2 r hr).1.mono k, (h.2 r hr).2.1.mono k, (h.2 r hr).2.2.mono k⟩⟩

theorem Rgs.at {u : H} {s : Sl} {l : List Rgn} (h : Rgs u s l) {x : Int} (h0 : 0 ≤ x) (h1 : x < (s.n : Int)) : ∃ p, s.a = some p ∧ ∃ q : Rgn, l[x.toNat]? = some q ∧
    u.cell? (p.add (x.toNat * 6)) = some (.int .i64 q.sh) ∧ u.cell? ((p.add (x.toNat * 6)).add 1) = some (.slice q.ls.a q.ls.n q.ls.c) ∧ u.cell? ((p.add (x.toNat * 6)).add 2) = some (.slice q.hs.a q.hs.n q.hs.c) ∧
    u.cell? ((p.add (x.toNat * 6)).add 3) = some (.int .u64 (hiW q.rad)) ∧ u.cell? ((p.add (x.toNat * 6)).add 4) = some (.int .u64 (loW q.rad)) ∧ u.cell? ((p.add (x.toNat * 6)).add 5) = some (.slice q.is.a q.is.n q.is.c) := by
  have hn := h.len
  have hl : x.toNat < l.length := by omega
  obtain ⟨p, hp, hc⟩ := Seg.elem encG_len (by decide) h.1 (List.getElem?_eq_getElem hl)
  exact ⟨p, hp, _, List.getElem?_eq_getElem hl, hc 0 _ rfl, hc 1 _ rfl, hc 2 _ rfl, hc 3 _ rfl, hc 4 _ rfl, hc 5 _ rfl⟩

/-- A region that may be in an answer, of a dimension. -/
structure RegOk (r : Rgn) (d : Int) : Prop where
  dim : 1 ≤ d ∧ d ≤ 64
  ids : Rise r.ids
  id : ∀ x ∈ r.ids, 1 ≤ x ∧ x ≤ 1000000000
  shape : (r.sh = 1 ∧ r.lo = [] ∧ r.hi = [] ∧ r.rad = 0) ∨ (r.sh = 2 ∧ r.rad = 0 ∧ vok r.lo ∧ vok r.hi ∧ (r.lo.length : Int) = d ∧ (r.hi.length : Int) = d ∧ ∀ i : Nat, (i : Int) < d → r.lo.getD i 0 ≤ r.hi.getD i 0) ∨
    (r.sh = 3 ∧ r.hi = [] ∧ vok r.lo ∧ (r.lo.length : Int) = d ∧ Dok r.rad)

/-- A vector that lies in a region. -/
def Inside (r : Rgn) (v : List Int) : Prop := (r.sh = 2 → ∀ i : Nat, i < v.length → r.lo.getD i 0 ≤ v.getD i 0 ∧ v.getD i 0 ≤ r.hi.getD i 0) ∧ (r.sh = 3 → sqTo r.lo v r.lo.length ≤ r.rad)

theorem hiW0 : hiW 0 = 0 := by decide
theorem loW0 : loW 0 = 0 := by decide

/-! ### sound -/

/-- An answer as it is told: hits, ids that were seen, regions. -/
structure AnsR (u : H) (sh ss sr : Sl) (hits : List Hit) (seen : List Int) (rest : List Rgn) : Prop where
  h : Hts u sh hits
  s : Ints u ss seen
  r : Rgs u sr rest

theorem AnsR.mono {u u' : H} {sh ss sr : Sl} {hits : List Hit} {seen : List Int} {rest : List Rgn} (h : AnsR u sh ss sr hits seen rest) (k : u.le u') : AnsR u' sh ss sr hits seen rest := ⟨h.h.mono k, h.s.mono k, h.r.mono k⟩

/-- What a sound answer is, of rows. -/
structure Sound (l : List Rw) (q : List Int) (k : Int) (hits : List Hit) (seen : List Int) (rest : List Rgn) : Prop where
  rise : Rise seen
  reg : ∀ r ∈ rest, RegOk r q.length ∧ r.ids ≠ [] ∧ ∀ x ∈ r.ids, ∃ w ∈ l, w.id = x ∧ Inside r w.v
  all : (seen ++ rest.flatMap (·.ids)).Perm (l.map (·.id))
  first : ∀ m : List Rw, (∀ r ∈ m, r ∈ l) → m.map (·.id) = seen → hits = topk k.toNat (m.map (hitOf q))

theorem build_row1 (x : Int) (s : Sl) : buildOf Tryz.prog 43 1 #[(0, .agg #[.int .i64 x, .slice s.a s.n s.c])] = some (24, [.int .i64 x, .slice s.a s.n s.c]) := by kernel_rfl

theorem OwnF.rws {u0 u : H} {e : Nat} {s : Sl} {m l : List Rw} {t : Sl} (h : OwnF u0 u e 2 s (m.flatMap encR)) (hl : Rws u t l) (hm : ∀ r ∈ m, r ∈ l) : Rws u s m := ⟨h.own.seg, fun r hr => hl.2 r (hm r hr)⟩

end Go.Proofs.YtbohcdjoglidhaaGreatDoor

/- VcFrame -/
namespace Go.Proofs.YtbohcdjoglidhaaGreatDoor

/-- v0 turns into v0', a part of v, which turns into v'. -/
structure Framed (v0 v v0' v' : H) : Prop where
  le : v0'.le v'
  out : ∀ b o, v0 b = none → v b = some o → v0' b = none ∧ v' b = some o
  new : ∀ b, v' b ≠ none → v0' b ≠ none ∨ (v0 b = none ∧ v' b = v b)

def H.frame (v v0 v0' : H) : H := fun b => match v0' b with
  | some o => some o
  | none => match v0 b with
    | some _ => none
    | none => v b

theorem Step.frame {v0 v v0' : H} {w w' : World} (k : Step v0 [] w v0' [] w') (hle : v0.le v) (hs : Sub v w) : Step v [] w (v.frame v0 v0') [] w' ∧ Framed v0 v v0' (v.frame v0 v0') := by
  have h0 : ∀ b, v b = none → v0 b = none := fun b hb => by
    cases e : v0 b with
    | none => rfl
    | some o => rw [hle _ _ e] at hb; cases hb
  refine ⟨⟨fun b o hb => ?_, k.os, k.tape, k.output, k.drawn, k.size, fun b hb hu _ => k.rest b hb (h0 b hu) (by simp), fun b hb hu => ?_, [], by simp, by simp⟩, ⟨fun b o hb => ?_, fun b o h1 h2 => ?_, fun b hb => ?_⟩⟩
  · unfold H.frame at hb
    split at hb
    · rename_i e; cases hb; exact k.sub _ _ e
    · split at hb
      · cases hb
      · rename_i e; rw [k.rest b (hs.lt hb) e (by simp)]; exact hs _ _ hb
  · unfold H.frame
    rw [k.honest b hb (h0 b hu), h0 b hu]
    exact hu
  · unfold H.frame; rw [hb]
  · have := k.honest b (hs.lt h2) h1
    exact ⟨this, by unfold H.frame; rw [this, h1]; exact h2⟩
  · cases e : v0' b with
    | some o => exact .inl (by simp)
    | none =>
      cases e0 : v0 b with
      | some o => unfold H.frame at hb; rw [e, e0] at hb; exact absurd rfl hb
      | none => exact .inr ⟨rfl, by unfold H.frame; rw [e, e0]⟩

theorem Seg.else {u u' : H} {s : Sl} {size : Nat} {xs : List Value} (h : Seg u s size xs) (hu : ∀ g o, s.blk = some g → u g = some o → u' g = some o) : Seg u' s size xs :=
  ⟨h.len, h.cap, h.max, h.at'.imp id fun ⟨p, h1, h2⟩ => ⟨p, h1, fun i v e => by
    have hc := h2 i v e
    unfold H.cell? at hc ⊢
    have hb : (p.add i).block = p.block := by unfold Addr.add; split <;> rfl
    split at hc
    · rename_i c t f hx
      rw [hu _ _ (by simp [Sl.blk, h1, hb]) hx]
      exact hc
    · cases hc⟩⟩

/-- One continuation says no less than another one, R between what is known. -/
def kTo (R : H → H → Prop) : (ts : List CT) → Cur ts (H → Prop) → Cur ts (H → Prop) → Prop
  | [], r, r' => ∀ u u', R u u' → r u → r' u'
  | _ :: ts, K, K' => ∀ x, kTo R ts (K x) (K' x)

theorem unC_kTo {R : H → H → Prop} {u u' : H} (hR : R u u') : ∀ (ts : List CT) (K K' : Cur ts (H → Prop)) (vs : List Value), kTo R ts K K' → (unC ts K vs fun r => r u) → unC ts K' vs fun r => r u' := by
  intro ts
  induction ts with
  | nil => intro K K' vs h k; cases vs with
    | nil => exact h _ _ hR k
    | cons => simp [unC] at k
  | cons t ts ih =>
    intro K K' vs h k
    cases vs with
    | nil => simp [unC] at k
    | cons v vs =>
      simp only [unC] at k ⊢
      obtain ⟨x, rfl, hx⟩ := CT.un_spec k
      exact (CT.un_enc t x _).2 (ih (K x) (K' x) vs (h x) hx)

theorem ClT.frame {P : Program} {f : FuncId} {args : Array Value} {ss : List Sh} {v0 v : H} {K K' : Cur (ctsOf ss) (H → Prop)} (h : ClT P f args ss v0 K) (hle : v0.le v) (hk : kTo (Framed v0 v) (ctsOf ss) K K') : ClT P f args ss v K' := by
  intro w hw
  refine (h w (hw.mono hle)).mono ?_
  rintro e w' ⟨x, u', he, ⟨vs, hv, hx, hc⟩, hs⟩
  obtain ⟨h1, h2⟩ := hs.frame hle hw
  exact ⟨x, _, he, ⟨vs, hv, hx, unC_kTo h2 _ _ _ _ hk hc⟩, h1⟩

theorem ClR.frame {P : Program} {fv : Value} {args : Array Value} {ss : List Sh} {v0 v : H} {K K' : Cur (ctsOf ss) (H → Prop)} (h : ClR P fv args ss v0 K) (hle : v0.le v) (hk : kTo (Framed v0 v) (ctsOf ss) K K') : ClR P fv args ss v K' := by
  obtain ⟨l, hf, h⟩ := h
  refine ⟨l, hf, fun w hw => ?_⟩
  obtain ⟨fn, tmps, assign, body, hy, hR⟩ := h w (hw.mono hle)
  refine ⟨fn, tmps, assign, body, hy, hR.mono ?_⟩
  rintro e w' ⟨x, u', he, ⟨vs, hv, hx, hc⟩, hs⟩
  obtain ⟨h1, h2⟩ := hs.frame hle hw
  exact ⟨x, _, he, ⟨vs, hv, hx, unC_kTo h2 _ _ _ _ hk hc⟩, h1⟩

theorem ClV.frame {P : Program} {fv : Value} {args : Array Value} {ss : List Sh} {v0 v : H} {K K' : Cur (ctsOf ss) (H → Prop)} (h : ClV P fv args ss v0 K) (hle : v0.le v) (hk : kTo (Framed v0 v) (ctsOf ss) K K') : ClV P fv args ss v K' := by
  obtain ⟨f, pre, cap, hf, hb, h⟩ := h
  exact ⟨f, pre, cap, hf, hb, h.frame hle hk⟩

theorem ClY.frame {P : Program} {fv : Value} {args : Array Value} {ss : List Sh} {v0 v : H} {K K' : Cur (ctsOf ss) (H → Prop)} (h : ClY P fv args ss v0 K) (hle : v0.le v) (hk : kTo (Framed v0 v) (ctsOf ss) K K') : ClY P fv args ss v K' :=
  h.imp (fun h => h.frame hle hk) fun h => h.frame hle hk

/-- What is known at the end may be less. -/
theorem Step.less {u u' u'' : H} {bs bs' : List Nat} {w w' : World} (h : Step u bs w u' bs' w') (k : u''.le u') : Step u bs w u'' bs' w' :=
  ⟨h.sub.mono k, h.os, h.tape, h.output, h.drawn, h.size, h.rest, fun b hb hu => (by
    cases e : u'' b with
    | none => rfl
    | some o => have := h.honest b hb hu; rw [k _ _ e] at this; cases this), h.more⟩

def kW : (ts : List CT) → Cur ts (H → Prop) → Cur ts (H → Prop)
  | [], r => fun u' => ∃ u'', u''.le u' ∧ r u''
  | _ :: ts, K => fun x => kW ts (K x)

theorem unC_kW {u' : H} : ∀ (ts : List CT) (K : Cur ts (H → Prop)) (vs : List Value), (unC ts (kW ts K) vs fun r => r u') → ∃ u'', u''.le u' ∧ unC ts K vs fun r => r u'' := by
  intro ts
  induction ts with
  | nil => intro K vs h; cases vs with
    | nil => exact h
    | cons => simp [unC] at h
  | cons t ts ih =>
    intro K vs h
    cases vs with
    | nil => simp [unC] at h
    | cons v vs =>
      simp only [unC] at h ⊢
      obtain ⟨x, rfl, hx⟩ := CT.un_spec h
      obtain ⟨u'', h1, h2⟩ := ih (K x) vs hx
      exact ⟨u'', h1, (CT.un_enc t x _).2 h2⟩

theorem ClT.weaken {P : Program} {f : FuncId} {args : Array Value} {ss : List Sh} {u : H} {K : Cur (ctsOf ss) (H → Prop)} (h : ClT P f args ss u (kW (ctsOf ss) K)) : ClT P f args ss u K := by
  intro w hw
  refine (h w hw).mono ?_
  rintro e w' ⟨v, u', he, ⟨vs, hk, hv, hc⟩, hs⟩
  obtain ⟨u'', hle, hc'⟩ := unC_kW _ _ _ hc
  exact ⟨v, u'', he, ⟨vs, hk, hv, hc'⟩, hs.less hle⟩

/-! ### a measure that stands in no slot -/

theorem least_ex {P : Nat → Prop} (h : ∃ n, P n) : ∃ n, P n ∧ ∀ m, P m → n ≤ m := by
  obtain ⟨n, hn⟩ := h
  induction n using Nat.strongRecOn with
  | ind n ih =>
    rcases Classical.em (∃ m, m < n ∧ P m) with ⟨m, hm, hp⟩ | hno
    · exact ih m hm hp
    · exact ⟨n, hn, fun m hp => Nat.le_of_not_lt fun hlt => hno ⟨m, hlt, hp⟩⟩

open Classical in
noncomputable def least (P : Nat → Prop) : Nat := if h : ∃ n, P n then Classical.choose (least_ex h) else 0

theorem least_is {P : Nat → Prop} (h : ∃ n, P n) : P (least P) := by
  unfold least; rw [dif_pos h]; exact (Classical.choose_spec (least_ex h)).1

theorem least_le {P : Nat → Prop} {n : Nat} (h : P n) : least P ≤ n := by
  unfold least; rw [dif_pos ⟨n, h⟩]; exact (Classical.choose_spec (least_ex ⟨n, h⟩)).2 n h

end Go.Proofs.YtbohcdjoglidhaaGreatDoor

/- VcRoot -/
namespace Go.Proofs.YtbohcdjoglidhaaGreatDoor

/-- The greatest number whose square is not above. -/
noncomputable def rt (w : Int) : Int := (least fun n => w < ((n : Int) + 1) * ((n : Int) + 1) : Nat)

theorem sq_lt {x y : Int} (h0 : 0 ≤ x) (h : x < y) : x * x < y * y := by
  have h1 : x * x ≤ x * y := Int.mul_le_mul_of_nonneg_left (by omega) h0
  have h2 : x * y < y * y := Int.mul_lt_mul_of_pos_right h (by omega)
  omega

theorem sq_le {x y : Int} (h0 : 0 ≤ x) (h : x ≤ y) : x * x ≤ y * y := Int.mul_le_mul h h h0 (by omega)

theorem rt_spec {w : Int} (h0 : 0 ≤ w) : 0 ≤ rt w ∧ rt w * rt w ≤ w ∧ w < (rt w + 1) * (rt w + 1) := by
  have hex : ∃ n : Nat, w < ((n : Int) + 1) * ((n : Int) + 1) := ⟨w.toNat, by
    have e : ((w.toNat : Nat) : Int) = w := by omega
    rw [e]
    have : w * 1 ≤ (w + 1) * (w + 1) := Int.mul_le_mul (by omega) (by omega) (by omega) (by omega)
    have h2 : (w + 1) * (w + 1) = w * (w + 1) + (w + 1) := by grind
    have h3 : 0 ≤ w * (w + 1) := Int.mul_nonneg h0 (by omega)
    omega⟩
  have h1 := least_is hex
  unfold rt
  generalize hn : (least fun n => w < ((n : Int) + 1) * ((n : Int) + 1)) = n at *
  refine ⟨by omega, ?_, h1⟩
  cases n with
  | zero => simpa using h0
  | succ m =>
    have hm : ¬ w < ((m : Int) + 1) * ((m : Int) + 1) := fun hlt => by
      have := least_le (P := fun n : Nat => w < ((n : Int) + 1) * ((n : Int) + 1)) hlt
      omega
    have e : ((m + 1 : Nat) : Int) = (m : Int) + 1 := by omega
    rw [e]
    omega

theorem rt_eq {w s : Int} (h0 : 0 ≤ s) (h1 : s * s ≤ w) (h2 : w < (s + 1) * (s + 1)) : s = rt w := by
  have hw : 0 ≤ w := by have := Int.mul_nonneg h0 h0; omega
  obtain ⟨r0, r1, r2⟩ := rt_spec hw
  by_cases ha : s < rt w
  · have := sq_le (show 0 ≤ s + 1 by omega) (show s + 1 ≤ rt w by omega)
    omega
  · by_cases hb : rt w < s
    · have := sq_le (show 0 ≤ rt w + 1 by omega) (show rt w + 1 ≤ s by omega)
      omega
    · omega

theorem rt_lt {w : Int} (h : Dok w) : rt w < 18446744073709551616 := by
  obtain ⟨r0, r1, r2⟩ := rt_spec h.1
  by_cases hb : 18446744073709551616 ≤ rt w
  · have := sq_le (show (0 : Int) ≤ 18446744073709551616 by omega) hb
    have := h.2
    omega
  · omega

/-- How near a box may be. -/
def boxTo (lo hi q : List Int) : Nat → Int
  | 0 => 0
  | n + 1 => boxTo lo hi q n + (if q.getD n 0 < lo.getD n 0 then sqd (lo.getD n 0) (q.getD n 0) else 0) + (if hi.getD n 0 < q.getD n 0 then sqd (q.getD n 0) (hi.getD n 0) else 0)

theorem boxTo_le {lo hi q : List Int} (hl : vok lo) (hh : vok hi) (hq : vok q) (e1 : lo.length = q.length) (e2 : hi.length = q.length) : ∀ n, n ≤ q.length → 0 ≤ boxTo lo hi q n ∧ boxTo lo hi q n ≤ n * 36893488113059364872 := by
  intro n
  induction n with
  | zero => intro _; simp [boxTo]
  | succ n ih =>
    intro hn
    obtain ⟨i0, i1⟩ := ih (by omega)
    have a1 := sqd_le (hl.2 n (by omega)) (hq.2 n (by omega))
    have a2 := sqd_le (hq.2 n (by omega)) (hh.2 n (by omega))
    unfold boxTo
    split <;> split <;> omega

/-- How near a ball may be. -/
noncomputable def ballTo (d rad : Int) : Int := if (if rt rad * rt rad = rad then rt rad else rt rad + 1) < rt d then (rt d - (if rt rad * rt rad = rad then rt rad else rt rad + 1)) * (rt d - (if rt rad * rt rad = rad then rt rad else rt rad + 1)) else 0

/-- How near a region may be. -/
noncomputable def nearR (r : Rgn) (q : List Int) : Int := if r.sh = 2 then boxTo r.lo r.hi q q.length else if r.sh = 3 then ballTo (sqTo r.lo q r.lo.length) r.rad else 0

theorem ballTo_ok {d rad : Int} (hd : Dok d) (hr : Dok rad) : Dok (ballTo d rad) := by
  unfold ballTo
  have h1 := rt_lt hd
  have h2 := (rt_spec hd.1).1
  have h3 := (rt_spec hr.1).1
  generalize ht : (if rt rad * rt rad = rad then rt rad else rt rad + 1) = t
  have t0 : 0 ≤ t := by rw [← ht]; split <;> omega
  split
  · rename_i hlt
    refine ⟨Int.mul_nonneg (by omega) (by omega), ?_⟩
    have := sq_le (show 0 ≤ rt d - t by omega) (show rt d - t ≤ 18446744073709551615 by omega)
    omega
  · exact ⟨by omega, by omega⟩

theorem nearR_ok {r : Rgn} {q : List Int} (hr : RegOk r q.length) (hq : vok q) : Dok (nearR r q) := by
  unfold nearR
  rcases hr.shape with ⟨e, _⟩ | ⟨e, _, v1, v2, l1, l2, hle⟩ | ⟨e, e2, v1, l1, hrad⟩
  · rw [if_neg (by omega), if_neg (by omega)]; exact ⟨by omega, by omega⟩
  · rw [if_pos e]
    have := boxTo_le v1 v2 hq (by omega) (by omega) q.length (Nat.le_refl _)
    have := hq.1
    exact ⟨by omega, by omega⟩
  · rw [if_neg (by omega), if_pos e]
    exact ballTo_ok (sqTo_ok v1 hq (by omega)) hrad

theorem wv_U {x y : Int} (_hx : U64 x) (hy : U64 y) : x = hiW (wv x y) ∧ y = loW (wv x y) := by
  unfold U64 at *
  unfold hiW loW wv
  omega

theorem hl_inj {x y : Int} (h1 : hiW x = hiW y) (h2 : loW x = loW y) : x = y := by
  rw [← wv_hl x, ← wv_hl y, h1, h2]

/-- Is an answer certain? -/
def CertA (q : List Int) (k : Int) (hits : List Hit) (rest : List Rgn) : Prop := rest = [] ∨ (k ≤ hits.length ∧ ∀ r ∈ rest, (hits.getD (k - 1).toNat default).2 < nearR r q)

end Go.Proofs.YtbohcdjoglidhaaGreatDoor

/- VcSpoil -/
namespace Go.Proofs.YtbohcdjoglidhaaGreatDoor

/-! ### slices that share no block -/

def Far (a b : Sl) : Prop := ∀ g, a.blk = some g → b.blk ≠ some g
theorem Far.symm {a b : Sl} (h : Far a b) : Far b a := fun g hg hg2 => h g hg2 hg

/-- What lies in no block of these stays. -/
def Keep (D : List Sl) (u v : H) : Prop := ∀ b o, u b = some o → (∀ s ∈ D, s.blk ≠ some b) → v b = some o

theorem Keep.refl (D : List Sl) (u : H) : Keep D u u := fun _ _ h _ => h
theorem Keep.trans {D : List Sl} {u v w : H} (h : Keep D u v) (k : Keep D v w) : Keep D u w := fun b o hb hd => k b o (h b o hb hd) hd
theorem Else.keep {D : List Sl} {u v : H} {s : Sl} (h : Else u v s) (hs : s ∈ D) : Keep D u v := fun b o hb hd => h b o hb (hd s hs)

theorem Keep.own {D : List Sl} {u0 u v : H} {e k : Nat} {t : Sl} {xs : List Value} (hk : Keep D u v) (h : OwnF u0 u e k t xs) (hf : ∀ s ∈ D, ∀ g, s.blk = some g → u0 g = none) (hd : ∀ s ∈ D, Far s t) : OwnF u0 v e k t xs :=
  ⟨h.own.le fun b o hb hu => hk b o hu fun s hs hg => hd s hs b hg hb, fun b o hb => hk b o (h.le b o hb) fun s hs hg => (by rw [hf s hs b hg] at hb; cases hb), h.fresh⟩

theorem OwnF.far {u0 u1 u v : H} {e k e' k' : Nat} {s t : Sl} {xs ys : List Value} (h : OwnF u0 u e k s xs) (hu : u.le u1) (h' : OwnF u1 v e' k' t ys) : Far s t := fun g hg hg2 => by
  have h1 := h'.fresh g hg2
  have h2 := own_known h hg
  cases hx : u g with
  | none => exact h2 hx
  | some o => rw [hu _ _ hx] at h1; cases h1

/-- The lists of a region. -/
def Rgn.sls (r : Rgn) : List Sl := [r.ls, r.hs, r.is]

structure Own3 (u0 u : H) (r : Rgn) : Prop where
  l : OwnF u0 u 3 1 r.ls (r.lo.flatMap encI)
  h : OwnF u0 u 3 1 r.hs (r.hi.flatMap encI)
  i : OwnF u0 u 3 1 r.is (r.ids.flatMap encI)

theorem Keep.own3 {D : List Sl} {u0 u v : H} {r : Rgn} (hk : Keep D u v) (h : Own3 u0 u r) (hf : ∀ s ∈ D, ∀ g, s.blk = some g → u0 g = none) (hd : ∀ s ∈ D, ∀ t ∈ r.sls, Far s t) : Own3 u0 v r :=
  ⟨hk.own h.l hf fun s hs => hd s hs _ (by simp [Rgn.sls]), hk.own h.h hf fun s hs => hd s hs _ (by simp [Rgn.sls]), hk.own h.i hf fun s hs => hd s hs _ (by simp [Rgn.sls])⟩

/-- All slices of an answer. -/
def ansS (sh ss sr : Sl) (rest : List Rgn) : List Sl := sh :: ss :: sr :: rest.flatMap Rgn.sls

/-- An answer of one's own. -/
structure AnsO (u0 u : H) (sh ss sr : Sl) (hits : List Hit) (seen : List Int) (rest : List Rgn) : Prop where
  h : OwnF u0 u 63 3 sh (hits.flatMap encH)
  s : OwnF u0 u 3 1 ss (seen.flatMap encI)
  r : OwnF u0 u 69 6 sr (rest.flatMap encG)
  g : ∀ r ∈ rest, Own3 u0 u r
  far : (ansS sh ss sr rest).Pairwise Far

theorem AnsO.fresh {u0 u : H} {sh ss sr : Sl} {hits : List Hit} {seen : List Int} {rest : List Rgn} (h : AnsO u0 u sh ss sr hits seen rest) : ∀ s ∈ ansS sh ss sr rest, ∀ g, s.blk = some g → u0 g = none := by
  intro s hs
  simp only [ansS, List.mem_cons, List.mem_flatMap] at hs
  rcases hs with rfl | rfl | rfl | ⟨r, hr, hs⟩
  · exact h.h.fresh
  · exact h.s.fresh
  · exact h.r.fresh
  · have := h.g r hr
    simp only [Rgn.sls, List.mem_cons, List.not_mem_nil, or_false] at hs
    rcases hs with rfl | rfl | rfl
    · exact this.l.fresh
    · exact this.h.fresh
    · exact this.i.fresh

theorem AnsO.known {u0 u : H} {sh ss sr : Sl} {hits : List Hit} {seen : List Int} {rest : List Rgn} (h : AnsO u0 u sh ss sr hits seen rest) : ∀ s ∈ ansS sh ss sr rest, ∀ g, s.blk = some g → u g ≠ none := by
  intro s hs g hg
  simp only [ansS, List.mem_cons, List.mem_flatMap] at hs
  rcases hs with rfl | rfl | rfl | ⟨r, hr, hs⟩
  · exact own_known h.h hg
  · exact own_known h.s hg
  · exact own_known h.r hg
  · have := h.g r hr
    simp only [Rgn.sls, List.mem_cons, List.not_mem_nil, or_false] at hs
    rcases hs with rfl | rfl | rfl
    · exact own_known this.l hg
    · exact own_known this.h hg
    · exact own_known this.i hg

theorem AnsO.mono {u0 u u' : H} {sh ss sr : Sl} {hits : List Hit} {seen : List Int} {rest : List Rgn} (h : AnsO u0 u sh ss sr hits seen rest) (k : u.le u') : AnsO u0 u' sh ss sr hits seen rest :=
  ⟨h.h.mono k, h.s.mono k, h.r.mono k, fun r hr => ⟨(h.g r hr).l.mono k, (h.g r hr).h.mono k, (h.g r hr).i.mono k⟩, h.far⟩

theorem AnsO.le {u0 u : H} {sh ss sr : Sl} {hits : List Hit} {seen : List Int} {rest : List Rgn} (h : AnsO u0 u sh ss sr hits seen rest) : u0.le u := h.h.le

theorem AnsO.read {u0 u : H} {sh ss sr : Sl} {hits : List Hit} {seen : List Int} {rest : List Rgn} (h : AnsO u0 u sh ss sr hits seen rest) : AnsR u sh ss sr hits seen rest :=
  ⟨h.h.hts, h.s.ints, h.r.own.seg, fun r hr => ⟨(h.g r hr).l.ints, (h.g r hr).h.ints, (h.g r hr).i.ints⟩⟩

/-- Where what was new stays, the answer stays. -/
theorem AnsO.else {u0 u u' : H} {sh ss sr : Sl} {hits : List Hit} {seen : List Int} {rest : List Rgn} (h : AnsO u0 u sh ss sr hits seen rest) (he : ∀ b o, u0 b = none → u b = some o → u' b = some o) : AnsR u' sh ss sr hits seen rest := by
  have one : ∀ {e k : Nat} {s : Sl} {xs : List Value}, OwnF u0 u e k s xs → Seg u' s k xs := fun ho => (ho.own.le (u' := u') fun b o hb hu => he b o (ho.fresh b hb) hu).seg
  have ints : ∀ {e : Nat} {s : Sl} {l : List Int}, OwnF u0 u e 1 s (l.flatMap encI) → Ints u' s l := fun ho => by
    have := one ho
    rw [flatI] at this
    exact this
  exact ⟨one h.h, ints h.s, one h.r, fun r hr => ⟨ints (h.g r hr).l, ints (h.g r hr).h, ints (h.g r hr).i⟩⟩

/-! ### two answers alike -/

/-- What a region tells. -/
def Rgn.core (r : Rgn) : Int × Int × List Int × List Int × List Int := (r.sh, r.rad, r.lo, r.hi, r.ids)

theorem spec.theodolitekeep_Region {r r' : Rgn} {u : H} {K : Bool → H → Prop} (h1 : Ints u r.ls r.lo) (h2 : Ints u r.hs r.hi) (h3 : Ints u r.is r.ids) (g1 : Ints u r'.ls r'.lo) (g2 : Ints u r'.hs r'.hi) (g3 : Ints u r'.is r'.ids) (e : r.core = r'.core) (h : K true u) :
    C.theodolitekeep_Region r.sh r.ls r.hs (hiW r.rad) (loW r.rad) r.is r'.sh r'.ls r'.hs (hiW r'.rad) (loW r'.rad) r'.is u K := by
  simp only [Rgn.core, Prod.mk.injEq] at e
  obtain ⟨e1, e2, e3, e4, e5⟩ := e
  apply vc.theodolitekeep_Region
  refine ⟨fun _ => ⟨fun _ => spec.theodolitekeep_Ints h1 g1 ?_, fun hne => absurd ⟨by rw [e2], by rw [e2]⟩ hne⟩, fun hne => absurd e1 hne⟩
  rw [decide_eq_true e3]
  refine ⟨fun _ => spec.theodolitekeep_Ints h2 g2 ?_, fun hb => by cases hb⟩
  rw [decide_eq_true e4]
  refine ⟨fun _ => spec.theodolitekeep_Ints h3 g3 ?_, fun hb => by cases hb⟩
  rw [decide_eq_true e5]
  exact h

theorem spec.theodolitekeep_Answer {sh ss sr sh' ss' sr' : Sl} {hits : List Hit} {seen : List Int} {rest rest' : List Rgn} {u : H} {K : Bool → H → Prop} (ha : AnsR u sh ss sr hits seen rest) (hb : AnsR u sh' ss' sr' hits seen rest') (e : rest.map Rgn.core = rest'.map Rgn.core)
    (h : K true u) : C.theodolitekeep_Answer sh ss sr sh' ss' sr' u K := by
  have na := ha.r.len
  have nb := hb.r.len
  have ma := ha.r.max
  have hlen : rest.length = rest'.length := by simpa using congrArg List.length e
  apply vc.theodolitekeep_Answer
  intro K0 hK0
  refine spec.theodolitekeep_Hits ha.h hb.h ?_
  rw [decide_eq_true rfl]
  refine ⟨fun hb => absurd rfl hb, fun _ => spec.theodolitekeep_Ints ha.s hb.s ?_⟩
  rw [decide_eq_true rfl]
  refine ⟨fun hb => absurd rfl hb, fun _ => ⟨fun hne => absurd (by rw [na, nb, hlen]) hne, fun _ => hK0 _ _ ?_⟩⟩
  refine ⟨fun _ i v => v = u ∧ 0 ≤ i, fun _ i _ => sr.n - i.toNat, ⟨rfl, by omega⟩, ?_⟩
  rintro _ i v ⟨rfl, i0⟩
  refine ⟨fun hi => ?_, fun _ => h⟩
  obtain ⟨p, hp, g, hg, c0, c1, c2, c3, c4, c5⟩ := ha.r.at i0 hi
  obtain ⟨p', hp', g', hg', d0, d1, d2, d3, d4, d5⟩ := hb.r.at i0 (show i < (sr'.n : Int) by omega)
  have hc : g.core = g'.core := by
    have h1 : (rest.map Rgn.core)[i.toNat]? = some g.core := by rw [List.getElem?_map, hg]; rfl
    rw [e, List.getElem?_map, hg'] at h1
    exact (Option.some.inj h1).symm
  obtain ⟨a1, a2, a3⟩ := ha.r.2 g (List.mem_of_getElem? hg)
  obtain ⟨b1, b2, b3⟩ := hb.r.2 g' (List.mem_of_getElem? hg')
  exact ⟨p, hp, ⟨i0, hi⟩, _, c0, _, c1, _, c2, _, c3, _, c4, _, c5, p', hp', ⟨i0, by omega⟩, _, d0, _, d1, _, d2, _, d3, _, d4, _, d5,
    spec.theodolitekeep_Region a1 a2 a3 b1 b2 b3 hc ⟨fun hb => absurd rfl hb, fun _ => ⟨⟨by omega, by omega⟩, ⟨rfl, by omega⟩, by dsimp only; omega⟩⟩⟩

/-! ### an answer written over -/

end Go.Proofs.YtbohcdjoglidhaaGreatDoor

/- VcSure -/
namespace Go.Proofs.YtbohcdjoglidhaaGreatDoor

/-! ### sums of products -/

def dotN (x y : Nat → Int) : Nat → Int
  | 0 => 0
  | n + 1 => dotN x y n + x n * y n

theorem dotN_sq (x : Nat → Int) (n : Nat) : 0 ≤ dotN x x n := by
  induction n with
  | zero => exact Int.le_refl _
  | succ n ih =>
    have : 0 ≤ x n * x n := by
      by_cases h : 0 ≤ x n
      · exact Int.mul_nonneg h h
      · exact Int.mul_nonneg_of_nonpos_of_nonpos (by omega) (by omega)
    unfold dotN
    omega

theorem dotN_lin (a b : Int) (x y : Nat → Int) (n : Nat) : dotN (fun i => a * x i - b * y i) (fun i => a * x i - b * y i) n = a * a * dotN x x n - 2 * (a * b) * dotN x y n + b * b * dotN y y n := by
  induction n with
  | zero => simp [dotN]
  | succ n ih =>
    unfold dotN
    rw [ih]
    generalize dotN x x n = p
    generalize dotN x y n = q
    generalize dotN y y n = r
    generalize x n = u
    generalize y n = v
    grind

/-- The square of a sum of products is not above the product of the sums of squares. -/
theorem cauchy (x y : Nat → Int) (n : Nat) : dotN x y n * dotN x y n ≤ dotN x x n * dotN y y n := by
  have hx := dotN_sq x n
  have hy := dotN_sq y n
  have h := fun a b => (dotN_lin a b x y n) ▸ dotN_sq (fun i => a * x i - b * y i) n
  generalize dotN x x n = p at *
  generalize dotN y y n = r at *
  generalize dotN x y n = q at *
  by_cases hr : 0 < r
  · have h1 := h r q
    have e : r * r * p - 2 * (r * q) * q + q * q * r = r * (p * r - q * q) := by grind
    rw [e] at h1
    by_cases hc : 0 ≤ p * r - q * q
    · omega
    · have := Int.mul_neg_of_pos_of_neg hr (show p * r - q * q < 0 by omega)
      omega
  · have hr0 : r = 0 := by omega
    subst hr0
    have h1 := h 1 (p + 1)
    have h2 := h 1 (-(p + 1))
    have e1 : (1 : Int) * 1 * p - 2 * (1 * (p + 1)) * q + (p + 1) * (p + 1) * 0 = p - 2 * ((p + 1) * q) := by grind
    have e2 : (1 : Int) * 1 * p - 2 * (1 * (-(p + 1))) * q + (-(p + 1)) * (-(p + 1)) * 0 = p + 2 * ((p + 1) * q) := by grind
    rw [e1] at h1
    rw [e2] at h2
    have hq : q = 0 := by
      by_cases h3 : 1 ≤ q
      · have : (p + 1) * 1 ≤ (p + 1) * q := Int.mul_le_mul_of_nonneg_left h3 (by omega)
        omega
      · by_cases h4 : q ≤ -1
        · have : (p + 1) * q ≤ (p + 1) * (-1) := Int.mul_le_mul_of_nonneg_left h4 (by omega)
          omega
        · omega
    rw [hq]
    omega

theorem sqTo_dot (a b : List Int) (n : Nat) : sqTo a b n = dotN (fun i => a.getD i 0 - b.getD i 0) (fun i => a.getD i 0 - b.getD i 0) n := by
  induction n with
  | zero => rfl
  | succ n ih => unfold sqTo dotN; rw [ih]; rfl

theorem sqTo_three (c v q : List Int) (n : Nat) : sqTo c q n = sqTo c v n + sqTo v q n + 2 * dotN (fun i => c.getD i 0 - v.getD i 0) (fun i => v.getD i 0 - q.getD i 0) n := by
  induction n with
  | zero => rfl
  | succ n ih =>
    unfold sqTo dotN sqd
    rw [ih]
    generalize c.getD n 0 = x
    generalize v.getD n 0 = y
    generalize q.getD n 0 = z
    grind

theorem ball_low {D E F P rad : Int} (hD : D = E + F + 2 * P) (hE : 0 ≤ E) (hF : 0 ≤ F) (hD0 : 0 ≤ D) (hC : P * P ≤ E * F) (hEr : E ≤ rad) : ballTo D rad ≤ F := by
  obtain ⟨s0, s1, _⟩ := rt_spec hD0
  obtain ⟨t0, t1, t2⟩ := rt_spec (show 0 ≤ rad by omega)
  unfold ballTo
  generalize hT : (if rt rad * rt rad = rad then rt rad else rt rad + 1) = T
  have T0 : 0 ≤ T ∧ rad ≤ T * T := by
    rw [← hT]
    split
    · rename_i e; exact ⟨t0, by omega⟩
    · exact ⟨by omega, by omega⟩
  generalize rt D = s at *
  split
  · rename_i hlt
    by_cases hc : (s - T) * (s - T) ≤ F
    · exact hc
    · exfalso
      by_cases hp : P ≤ T * (s - T)
      · have e : s * s = T * T + (s - T) * (s - T) + 2 * (T * (s - T)) := by grind
        omega
      · have hz : 0 ≤ T * (s - T) := Int.mul_nonneg T0.1 (by omega)
        have h1 := sq_lt hz (show T * (s - T) < P by omega)
        have h2 : E * F ≤ (T * T) * ((s - T) * (s - T)) := Int.mul_le_mul (by omega) (by omega) hF (by omega)
        have e : T * (s - T) * (T * (s - T)) = (T * T) * ((s - T) * (s - T)) := by grind
        omega
  · exact hF

theorem box_low {lo hi v q : List Int} : ∀ n, (∀ i, i < n → lo.getD i 0 ≤ v.getD i 0 ∧ v.getD i 0 ≤ hi.getD i 0) → boxTo lo hi q n ≤ sqTo v q n := by
  intro n
  induction n with
  | zero => intro _; exact Int.le_refl _
  | succ n ih =>
    intro h
    have h1 := ih fun i hi => h i (by omega)
    obtain ⟨h2, h3⟩ := h n (by omega)
    unfold boxTo sqTo sqd
    generalize lo.getD n 0 = a at *
    generalize hi.getD n 0 = b at *
    generalize v.getD n 0 = x at *
    generalize q.getD n 0 = y at *
    have hz : 0 ≤ (x - y) * (x - y) := by
      by_cases h : 0 ≤ x - y
      · exact Int.mul_nonneg h h
      · exact Int.mul_nonneg_of_nonpos_of_nonpos (by omega) (by omega)
    have e1 : y < a → (a - y) * (a - y) ≤ (x - y) * (x - y) := fun _ => sq_le (by omega) (by omega)
    have e2 : b < y → (y - b) * (y - b) ≤ (x - y) * (x - y) := fun _ => by
      have := sq_le (show 0 ≤ y - b by omega) (show y - b ≤ y - x by omega)
      have e : (y - x) * (y - x) = (x - y) * (x - y) := by grind
      omega
    split <;> split <;> omega

/-- What lies in a region is no nearer than its bound. -/
theorem near_low {r : Rgn} {q v : List Int} (hr : RegOk r q.length) (hv : v.length = q.length) (hvo : vok v) (hq : vok q) (hin : Inside r v) : nearR r q ≤ sqTo v q v.length := by
  unfold nearR
  have hF := (sqTo_le hvo hq v.length (Nat.le_refl _) (by omega)).1
  rcases hr.shape with ⟨e, _⟩ | ⟨e, _, v1, v2, l1, l2, hle⟩ | ⟨e, e2, v1, l1, hrad⟩
  · rw [if_neg (by omega), if_neg (by omega)]; exact hF
  · rw [if_pos e, ← hv]
    exact box_low _ fun i hi => hin.1 e i hi
  · rw [if_neg (by omega), if_pos e]
    have hl : r.lo.length = v.length := by omega
    have hE := (sqTo_le v1 hvo r.lo.length (Nat.le_refl _) (by omega)).1
    have hD := (sqTo_le v1 hq r.lo.length (Nat.le_refl _) (by omega)).1
    have h3 := sqTo_three r.lo v q r.lo.length
    have hEr := hin.2 e
    rw [hl] at hE hD h3 hEr ⊢
    refine ball_low h3 hE hF hD ?_ hEr
    rw [sqTo_dot r.lo v, sqTo_dot v q]
    exact cauchy _ _ _

/-! ### certain answers -/

theorem rowsOf : ∀ (S : List Int) (L : List Rw), S.Perm (L.map (·.id)) → ∃ m : List Rw, m.Perm L ∧ m.map (·.id) = S := by
  intro S
  induction S with
  | nil =>
    intro L h
    cases L with
    | nil => exact ⟨[], .refl _, rfl⟩
    | cons r L => have := h.length_eq; simp at this
  | cons x S ih =>
    intro L h
    obtain ⟨r, hr, hx⟩ := List.mem_map.1 (h.mem_iff.1 (List.mem_cons_self ..))
    obtain ⟨A, B, rfl⟩ := List.append_of_mem hr
    have h5 : S.Perm ((A ++ B).map (·.id)) := by
      have h6 : (x :: S).Perm (x :: (A ++ B).map (·.id)) := by
        refine h.trans ?_
        rw [List.map_append, List.map_cons, List.map_append, hx]
        exact List.perm_middle
      exact (List.perm_cons x).1 h6
    obtain ⟨m, hm1, hm2⟩ := ih _ h5
    exact ⟨r :: m, (hm1.cons r).trans List.perm_middle.symm, by rw [List.map_cons, hm2, hx]⟩

theorem topk_far {k : Nat} {a : List Hit} (ha : k ≤ a.length) : ∀ {b : List Hit}, (∀ x ∈ b, ∀ y ∈ topk k a, hlt x y = false) → topk k (b ++ a) = topk k a := by
  intro b
  induction b with
  | nil => intro _; rfl
  | cons x b ih =>
    intro h
    have h1 := ih fun z hz => h z (List.mem_cons_of_mem _ hz)
    rw [List.cons_append, topk_worse (by rw [List.length_append]; omega) (by rw [h1]; exact h x (List.mem_cons_self ..)), h1]

/-- The rows that a sound answer has seen, and those it has not. -/
theorem Sound.parts {L : List Rw} {q : List Int} {k : Int} {hits : List Hit} {seen : List Int} {rest : List Rgn} (h : Sound L q k hits seen rest) : ∃ m1 m2 : List Rw, (m1 ++ m2).Perm L ∧ m1.map (·.id) = seen ∧ m2.map (·.id) = rest.flatMap (·.ids) ∧ hits = topk k.toNat (m1.map (hitOf q)) := by
  obtain ⟨m, hm1, hm2⟩ := rowsOf _ L h.all
  have hs : (m.take seen.length).map (·.id) = seen := by rw [List.map_take, hm2, List.take_left]
  have hd : (m.drop seen.length).map (·.id) = rest.flatMap (·.ids) := by rw [List.map_drop, hm2, List.drop_left]
  refine ⟨m.take seen.length, m.drop seen.length, by rw [List.take_append_drop]; exact hm1, hs, hd, ?_⟩
  exact h.first _ (fun r hr => hm1.mem_iff.1 (List.mem_of_mem_take hr)) hs

/-- Regions of what they tell. -/
def rgnOf (z : Int × Int × List Int × List Int × List Int) : Rgn := ⟨z.1, ⟨none, 0, 0⟩, ⟨none, 0, 0⟩, z.2.1, ⟨none, 0, 0⟩, z.2.2.1, z.2.2.2.1, z.2.2.2.2⟩
theorem rgnOf_core (l : List (Int × Int × List Int × List Int × List Int)) : (l.map rgnOf).map Rgn.core = l := by
  rw [List.map_map]
  exact List.map_id' _

/-- A certain answer has the first of all rows. -/
theorem Sound.certain {L : List Rw} {q : List Int} {k : Int} {hits : List Hit} {seen : List Int} {rest : List Rgn} (h : Sound L q k hits seen rest) (hq : Qok L q) (hk : 1 ≤ k) (hc : CertA q k hits rest) : hits = topk k.toNat (L.map (hitOf q)) := by
  obtain ⟨m1, m2, hp, hs, hd, e⟩ := h.parts
  have hpm : ((m2 ++ m1).map (hitOf q)).Perm (L.map (hitOf q)) := (List.perm_append_comm.trans hp).map _
  rw [← topk_eq hpm, List.map_append]
  rcases hc with hc | ⟨hlen, hc⟩
  · have : m2 = [] := by
      have := congrArg List.length hd
      rw [hc] at this
      exact List.eq_nil_of_length_eq_zero (by simpa using this)
    rw [this, e]
    rfl
  · have hl : (topk k.toNat (m1.map (hitOf q))).length = k.toNat := by
      rw [← e]
      have := topk_len k.toNat (m1.map (hitOf q))
      rw [← e] at this
      omega
    have hml : k.toNat ≤ (m1.map (hitOf q)).length := by
      have := topk_len k.toNat (m1.map (hitOf q))
      omega
    rw [topk_far hml fun x hx y hy => ?_, e]
    obtain ⟨w, hw, rfl⟩ := List.mem_map.1 hx
    have hwL : w ∈ L := hp.mem_iff.1 (List.mem_append_right _ hw)
    have hid : w.id ∈ rest.flatMap (·.ids) := by rw [← hd]; exact List.mem_map_of_mem hw
    obtain ⟨r, hr, hri⟩ := List.mem_flatMap.1 hid
    obtain ⟨hreg, _, hall⟩ := h.reg r hr
    obtain ⟨w', hw', he, hin⟩ := hall _ hri
    have ew : w' = w := by
      have hnd := hq.rows.nodup
      rw [List.nodup_iff_pairwise_ne, List.pairwise_map, List.pairwise_iff_getElem] at hnd
      obtain ⟨i, hi, rfl⟩ := List.getElem_of_mem hw'
      obtain ⟨j, hj, rfl⟩ := List.getElem_of_mem hwL
      by_cases h1 : i < j
      · exact absurd he (hnd i j hi hj h1)
      · by_cases h2 : j < i
        · exact absurd he.symm (hnd j i hj hi h2)
        · have : i = j := by omega
          subst this
          rfl
    subst ew
    obtain ⟨hvl, hvo⟩ := hq.rows.v _ hw'
    have hlow := near_low hreg (by omega) hvo hq.vq hin
    have hfar := hc r hr
    -- the last of the hits is the farthest
    have hlast : y.2 ≤ (hits.getD (k - 1).toNat default).2 := by
      have hsrt := topk_srt k.toNat (m1.map (hitOf q))
      rw [← e] at hsrt hy hl
      obtain ⟨i, hi, rfl⟩ := List.getElem_of_mem hy
      have hki : (k - 1).toNat < hits.length := by omega
      rw [List.getD_eq_getElem?_getD, List.getElem?_eq_getElem hki]
      show hits[i].2 ≤ hits[(k - 1).toNat].2
      by_cases hij : i = (k - 1).toNat
      · subst hij; exact Int.le_refl _
      · have := List.pairwise_iff_getElem.1 hsrt i (k - 1).toNat hi hki (by omega)
        rw [hlt_not] at this
        omega
    rw [hlt_not]
    left
    show y.2 < sqTo w'.v q w'.v.length
    omega

theorem rok_pr {L' : List Rw} {d : Int} (hd : 1 ≤ d ∧ d ≤ 64) (hlen : L'.length ≤ 512) (hnd : (L'.map (·.id)).Nodup) (h : ∀ p ∈ L'.map Rw.pr, 1 ≤ p.1 ∧ p.1 ≤ 1000000000 ∧ (p.2.length : Int) = d ∧ vok p.2) : Rok L' d :=
  ⟨hd, hlen, fun r hr => ⟨(h r.pr (List.mem_map_of_mem hr)).1, (h r.pr (List.mem_map_of_mem hr)).2.1⟩, hnd, fun r hr => (h r.pr (List.mem_map_of_mem hr)).2.2⟩

end Go.Proofs.YtbohcdjoglidhaaGreatDoor

/- VcNear -/
namespace Go.Proofs.YtbohcdjoglidhaaGreatDoor

/-- A slice of one's own without its last ones. -/
theorem OwnF.front {u0 u : H} {e k : Nat} {s : Sl} {xs : List Value} (h : OwnF u0 u e k s xs) {m : Nat} (hm : m ≤ s.n) : OwnF u0 u e k (s.part 0 m s.c k) (xs.take (m * k)) ∧ (s.part 0 m s.c k).blk = s.blk ∧ (s.part 0 m s.c k).n = m := by
  have ha : (s.part 0 m s.c k).a = s.a := by
    unfold Sl.part
    simp only
    split
    · rfl
    · rw [Nat.zero_mul]; cases s.a <;> simp [Addr.add_zero']
  have hb : (s.part 0 m s.c k).blk = s.blk := by unfold Sl.blk; rw [ha]
  refine ⟨⟨⟨?_, ?_⟩, h.le, fun g hg => h.fresh g (hb ▸ hg)⟩, hb, rfl⟩
  · show _ = (m - 0) * k
    rw [List.length_take, h.own.len, Nat.sub_zero, Nat.min_eq_left (Nat.mul_le_mul_right _ hm)]
  · rcases h.own.is with h0 | ⟨g, cur, e1, e2, e3, e4, e5, e6⟩
    · left
      subst h0
      have : m = 0 := by simpa using hm
      subst this
      simp [Sl.part]
    · right
      refine ⟨g, cur, ha.trans e1, e2, ?_, ?_, ?_, ?_⟩
      · show m - 0 ≤ s.c - 0; omega
      · show s.c - 0 ≤ _; omega
      · show cur.size = (s.c - 0) * k; rw [Nat.sub_zero]; exact e5
      · show cur.toList.take ((m - 0) * k) = _
        rw [Nat.sub_zero, ← e6, List.take_take, Nat.min_eq_left (Nat.mul_le_mul_right _ hm)]

/-- A heap of hits in block n. -/
structure NearSt (u0 : H) (n : Nat) (u : H) (l : List Hit) : Prop where
  ex : ∃ s : Sl, u n = some (.cells #[.slice s.a s.n s.c] 179 (0, 0)) ∧ OwnF u0 u 63 3 s (l.flatMap encH) ∧ s.blk ≠ some n
  out : u0 n = none
  small : l.length ≤ 1000000

theorem NearSt.set {u0 u u' : H} {n : Nat} {l l' : List Hit} {s : Sl} (h : NearSt u0 n u l) (hn : u n = some (.cells #[.slice s.a s.n s.c] 179 (0, 0))) (hs : s.blk ≠ some n)
    (ho : OwnF u0 u' 63 3 s (l'.flatMap encH)) (he : Else u u' s) (hl : l'.length = l.length) : NearSt u0 n u' l' :=
  ⟨⟨s, he _ _ hn hs, ho, hs⟩, h.out, by rw [hl]; exact h.small⟩

end Go.Proofs.YtbohcdjoglidhaaGreatDoor

/- VcHeapF -/
namespace Go.Proofs.YtbohcdjoglidhaaGreatDoor

section
variable {α : Type} [Inhabited α] (lt : α → α → Bool)

def upF (l : List α) (j : Nat) : List α :=
  if _h : j = 0 then l else if lt (l.getD j default) (l.getD (pa j) default) then upF (swapL l (pa j) j) (pa j) else l
termination_by j
decreasing_by unfold pa; omega

/-- The child that is first. -/
def kidF (n : Nat) (l : List α) (i : Nat) : Nat := if 2 * i + 2 < n ∧ lt (l.getD (2 * i + 2) default) (l.getD (2 * i + 1) default) = true then 2 * i + 2 else 2 * i + 1

def downH (n : Nat) (l : List α) (i : Nat) : List α :=
  if _h : 2 * i + 1 < n then (if lt (l.getD (kidF lt n l i) default) (l.getD i default) then downH n (swapL l i (kidF lt n l i)) (kidF lt n l i) else l) else l
termination_by n - i
decreasing_by unfold kidF; split <;> omega

def pushF (l : List α) (y : α) : List α := upF lt (l ++ [y]) l.length
def popF (l : List α) : List α := (downH lt (l.length - 1) (swapL l 0 (l.length - 1)) 0).dropLast
end

section
variable {α : Type} [Inhabited α] {lt : α → α → Bool}

theorem upF_perm : ∀ (j : Nat) (l : List α), j < l.length → (upF lt l j).Perm l := by
  intro j
  induction j using Nat.strongRecOn with
  | ind j ih =>
    intro l hj
    unfold upF
    split
    · exact .refl _
    · split
      · have hp : pa j < j := by unfold pa; omega
        exact (ih (pa j) hp _ (by rw [swapL_len]; omega)).trans (swapL_perm (by omega) hj)
      · exact .refl _

theorem upF_hp (L : LtOk lt) : ∀ (j : Nat) (l : List α), UpI lt l j → Hp lt (upF lt l j).length (upF lt l j) := by
  intro j
  induction j using Nat.strongRecOn with
  | ind j ih =>
    intro l hu
    unfold upF
    split
    · rename_i h; exact hu.done (.inl h)
    · split
      · rename_i h hl
        exact ih (pa j) (by unfold pa; omega) _ (hu.step L (by omega) hl)
      · rename_i h hl
        exact hu.done (.inr (by simpa using hl))

theorem kidF_ok {n i : Nat} {l : List α} (h : 2 * i + 1 < n) : 0 < kidF lt n l i ∧ kidF lt n l i < n ∧ pa (kidF lt n l i) = i ∧ i < kidF lt n l i := by
  unfold kidF pa
  split <;> omega

theorem kidF_min (L : LtOk lt) {n i : Nat} {l : List α} (_h : 2 * i + 1 < n) : ∀ x, 0 < x → x < n → pa x = i → lt (l.getD x default) (l.getD (kidF lt n l i) default) = false := by
  have irr : ∀ a, lt a a = false := fun a => by
    cases e : lt a a with
    | false => rfl
    | true => have := L.asymm _ _ e; rw [e] at this; cases this
  intro x x0 x1 x2
  have two : x = 2 * i + 1 ∨ x = 2 * i + 2 := by unfold pa at x2; omega
  unfold kidF
  split
  · rename_i hc
    rcases two with rfl | rfl
    · exact L.asymm _ _ hc.2
    · exact irr _
  · rename_i hc
    rcases two with rfl | rfl
    · exact irr _
    · cases e : lt (l.getD (2 * i + 2) default) (l.getD (2 * i + 1) default) with
      | false => rfl
      | true => exact absurd ⟨x1, e⟩ hc

theorem downH_len (n : Nat) : ∀ (m : Nat) (i : Nat) (l : List α), n - i ≤ m → (downH lt n l i).length = l.length := by
  intro m
  induction m with
  | zero =>
    intro i l h
    unfold downH
    rw [dif_neg (by omega)]
  | succ m ih =>
    intro i l h
    unfold downH
    split
    · rename_i hc
      split
      · obtain ⟨_, _, _, hk⟩ := kidF_ok (lt := lt) (l := l) hc
        rw [ih _ _ (by omega), swapL_len]
      · rfl
    · rfl

theorem downH_ok (L : LtOk lt) {n : Nat} : ∀ (m : Nat) (i : Nat) (l : List α), n - i ≤ m → DownI lt n l i → n ≤ l.length → (i < n ∨ i = 0) →
    (downH lt n l i).Perm l ∧ Hp lt n (downH lt n l i) ∧ ∀ k, n ≤ k → (downH lt n l i)[k]? = l[k]? := by
  intro m
  induction m with
  | zero =>
    intro i l h hd hn hi
    unfold downH
    rw [dif_neg (by omega)]
    exact ⟨.refl _, hd.done (fun x x0 x1 x2 => by unfold pa at x2; omega), fun _ _ => rfl⟩
  | succ m ih =>
    intro i l h hd hn hi
    unfold downH
    split
    · rename_i hc
      obtain ⟨k0, k1, k2, k3⟩ := kidF_ok (lt := lt) (l := l) hc
      split
      · rename_i hl
        obtain ⟨h1, h2, h3⟩ := ih (kidF lt n l i) (swapL l i (kidF lt n l i)) (by omega) (hd.step L k0 k1 k2 hl (kidF_min L hc)) (by rw [swapL_len]; exact hn) (.inl k1)
        refine ⟨h1.trans (swapL_perm (by omega) (by omega)), h2, fun k hk => ?_⟩
        rw [h3 k hk, swapL_out (by omega) (by omega)]
      · rename_i hl
        refine ⟨.refl _, hd.done (fun x x0 x1 x2 => ?_), fun _ _ => rfl⟩
        exact L.trans _ _ _ (by simpa using hl) (kidF_min L hc x x0 x1 x2)
    · rename_i hc
      exact ⟨.refl _, hd.done (fun x x0 x1 x2 => by unfold pa at x2; omega), fun _ _ => rfl⟩

theorem push_up {l : List α} {y : α} (hh : Hp lt l.length l) : UpI lt (l ++ [y]) l.length := by
  refine ⟨by simp, fun i i0 i1 i2 => ?_, fun i i0 i1 i2 => ?_⟩
  · simp only [List.length_append, List.length_singleton] at i1
    have hi : i < l.length := by omega
    have g : ∀ k, k < l.length → (l ++ [y]).getD k default = l.getD k default := fun k hk => by
      rw [List.getD_eq_getElem?_getD, List.getElem?_append_left hk, ← List.getD_eq_getElem?_getD]
    rw [g i hi, g _ (by unfold pa; omega)]
    exact hh i i0 hi
  · simp only [List.length_append, List.length_singleton] at i1
    unfold pa at i2
    omega

theorem pushF_ok (L : LtOk lt) {l : List α} {y : α} (hh : Hp lt l.length l) : (pushF lt l y).Perm (l ++ [y]) ∧ Hp lt (pushF lt l y).length (pushF lt l y) :=
  ⟨upF_perm _ _ (by simp), upF_hp L _ _ (push_up hh)⟩

theorem pop_down {l : List α} (hh : Hp lt l.length l) (hne : 0 < l.length) : DownI lt (l.length - 1) (swapL l 0 (l.length - 1)) 0 := by
  refine ⟨by rw [swapL_len]; omega, fun i i0 i1 i2 => ?_, fun i i0 i1 i2 h => by simp at h⟩
  have i2' : pa i ≠ 0 := i2
  rw [swapL_getD (by omega) (by omega) (by omega), swapL_getD (by omega) (by omega) (by unfold pa; omega)]
  rw [if_neg (by omega), if_neg (by omega), if_neg (by unfold pa; omega), if_neg i2']
  exact hh i i0 (by omega)

theorem popF_ok (L : LtOk lt) {l : List α} (hh : Hp lt l.length l) (hne : 0 < l.length) : (l.getD 0 default :: popF lt l).Perm l ∧ Hp lt (popF lt l).length (popF lt l) ∧ (∀ y ∈ popF lt l, lt y (l.getD 0 default) = false) ∧
    downH lt (l.length - 1) (swapL l 0 (l.length - 1)) 0 = popF lt l ++ [l.getD 0 default] := by
  have hd := pop_down hh hne
  obtain ⟨h1, h2, h3⟩ := downH_ok L (l.length - 1) 0 _ (by omega) hd (by rw [swapL_len]; omega) (.inr rfl)
  have hlen := downH_len (lt := lt) (l.length - 1) (l.length - 1) 0 (swapL l 0 (l.length - 1)) (by omega)
  rw [swapL_len] at hlen
  have e : downH lt (l.length - 1) (swapL l 0 (l.length - 1)) 0 = popF lt l ++ [l.getD 0 default] := by
    unfold popF
    generalize hD : downH lt (l.length - 1) (swapL l 0 (l.length - 1)) 0 = D at *
    have hne2 : D ≠ [] := fun e => by rw [e] at hlen; simp at hlen; omega
    have hlast := List.dropLast_concat_getLast hne2
    rw [List.getLast_eq_getElem] at hlast
    have hx : D[D.length - 1]'(by omega) = l.getD 0 default := by
      have h4 := h3 (l.length - 1) (Nat.le_refl _)
      rw [List.getElem?_eq_getElem (by omega), List.getElem?_eq_getElem (by rw [swapL_len]; omega)] at h4
      have h5 : D[l.length - 1]'(by omega) = (swapL l 0 (l.length - 1)).getD (l.length - 1) default := by
        rw [List.getD_eq_getElem?_getD, List.getElem?_eq_getElem (by rw [swapL_len]; omega)]
        exact Option.some.inj h4
      rw [swapL_getD (by omega) (by omega) (by omega), if_pos rfl] at h5
      rw [← h5]
      congr 1
      omega
    rw [hx] at hlast
    exact hlast.symm
  have hp : (l.getD 0 default :: popF lt l).Perm l := by
    have := h1.trans (swapL_perm (by omega) (by omega))
    rw [e] at this
    exact (List.perm_append_singleton _ _).symm.trans this
  have hlp : (popF lt l).length = l.length - 1 := by
    have := hp.length_eq
    simp only [List.length_cons] at this
    omega
  refine ⟨hp, fun i i0 i1 => ?_, fun y hy => ?_, e⟩
  · have h5 := h2 i i0 (by omega)
    rw [e] at h5
    have g : ∀ k, k < (popF lt l).length → (popF lt l ++ [l.getD 0 default]).getD k default = (popF lt l).getD k default := fun k hk => by
      rw [List.getD_eq_getElem?_getD, List.getElem?_append_left hk, ← List.getD_eq_getElem?_getD]
    rw [g i i1, g _ (by unfold pa; omega)] at h5
    exact h5
  · have hyl : y ∈ l := hp.mem_iff.1 (List.mem_cons_of_mem _ hy)
    obtain ⟨i, hi, rfl⟩ := List.getElem_of_mem hyl
    have := hh.root L i hi
    rwa [List.getD_eq_getElem?_getD, List.getElem?_eq_getElem hi] at this

/-! ### the code -/

variable {recv : Value} {St : H → List α → Prop}

theorem spec.heap_upF (I : HeapI recv St lt) {u : H} {l : List α} {j : Int} {K : H → Prop} (hs : St u l) (h0 : 0 ≤ j) (hj : j < l.length) (hK : ∀ u', St u' (upF lt l j.toNat) → K u') : C.heap_up recv j u K := by
  have hsm := I.small hs
  apply vc.heap_up
  refine ⟨fun x v => 0 ≤ x ∧ ∃ l', St v l' ∧ l'.length = l.length ∧ x < l.length ∧ upF lt l' x.toNat = upF lt l j.toNat, fun x _ => x.toNat, ⟨h0, l, hs, rfl, hj, rfl⟩, ?_⟩
  rintro x v ⟨x0, l', hs', hlen, hin, he⟩
  refine ⟨⟨by omega, by omega⟩, by decide, ?_⟩
  by_cases hx : x = 0
  · subst hx
    refine ⟨⟨by decide, by decide⟩, fun _ => hK _ ?_, fun h => absurd (by decide) h⟩
    rw [← he]
    unfold upF
    rw [dif_pos (by rfl)]
    exact hs'
  · have ht : Int.tdiv (x - 1) 2 = (x - 1) / 2 := Int.tdiv_eq_ediv_of_nonneg (by omega)
    have hpa : ((x - 1) / 2).toNat = pa x.toNat := by unfold pa; omega
    rw [ht]
    refine ⟨⟨by omega, by omega⟩, fun h => by omega, fun _ => I.less hs' x0 (by omega) (by omega) (by omega) ?_⟩
    rw [hpa]
    refine ⟨fun hb => hK _ ?_, fun hb => I.swap hs' (by omega) (by omega) x0 (by omega) fun u' hs2 => ⟨⟨by omega, _, hs2, by rw [swapL_len]; exact hlen, by omega, ?_⟩, by dsimp only; omega⟩⟩
    · rw [← he]
      unfold upF
      rw [dif_neg (by omega), if_neg hb]
      exact hs'
    · rw [hpa, ← he]
      conv => rhs; unfold upF
      rw [dif_neg (by omega), if_pos hb]

theorem spec.heap_downH (I : HeapI recv St lt) {u : H} {l : List α} {j n : Int} {K : Bool → H → Prop} (hs : St u l) (h0 : 0 ≤ j) (hn : n ≤ l.length) (hK : ∀ b u', St u' (downH lt n.toNat l j.toNat) → K b u') (hj : j < n ∨ j ≤ 0) (hlen0 : j < l.length) : C.heap_down recv j n u K := by
  have hsm := I.small hs
  apply vc.heap_down
  intro K0 hK0
  refine ⟨fun x v => 0 ≤ x ∧ (x < n ∨ x ≤ 0) ∧ x < l.length ∧ ∃ l', St v l' ∧ l'.length = l.length ∧ downH lt n.toNat l' x.toNat = downH lt n.toNat l j.toNat, fun x _ => (n - x).toNat, ⟨h0, hj, hlen0, l, hs, rfl, rfl⟩, ?_⟩
  rintro x v ⟨x0, hxn, hxl, l', hs', hlen, he⟩
  have done : downH lt n.toNat l' x.toNat = l' → K0 x v := fun h => hK0 _ _ (hK _ _ (by rw [← he, h]; exact hs'))
  refine ⟨⟨by omega, by omega⟩, ⟨by omega, by omega⟩, fun K7 hK7 => ⟨fun h => done ?_, fun h => ⟨fun h2 => by omega, fun _ => hK7 _ ?_⟩⟩⟩
  · unfold downH
    rw [dif_neg (by omega)]
  clear hK7 K7
  intro K9 hK9
  have turn : ∀ c : Int, c.toNat = kidF lt n.toNat l' x.toNat → 0 < c → c < n → x < c → K9 c v := by
    intro c hc c0 c1 hcx
    refine hK9 _ _ (I.less hs' (by omega) (by omega) x0 (by omega) ⟨fun hb => done ?_, fun hb => I.swap hs' x0 (by omega) (by omega) (by omega) fun u' hs2 => ⟨⟨by omega, .inl c1, by omega, _, hs2, by rw [swapL_len]; exact hlen, ?_⟩, by dsimp only; omega⟩⟩)
    · unfold downH
      rw [dif_pos (by omega), ← hc, if_neg hb]
    · rw [← he]
      conv => rhs; unfold downH
      rw [dif_pos (by omega), ← hc, if_pos hb]
  clear hK9
  have e1 : (2 * x + 1).toNat = 2 * x.toNat + 1 := by omega
  have e2 : (2 * x + 1 + 1).toNat = 2 * x.toNat + 2 := by omega
  refine ⟨⟨by omega, by omega⟩, fun h2 => I.less hs' (by omega) (by omega) (by omega) (by omega) ⟨fun hb => turn _ ?_ (by omega) h2 (by omega), fun hb => turn _ ?_ (by omega) (by omega) (by omega)⟩, fun h2 => turn _ ?_ (by omega) (by omega) (by omega)⟩
  · rw [e1, e2] at hb
    unfold kidF
    rw [if_pos ⟨by omega, hb⟩, e2]
  · rw [e1, e2] at hb
    unfold kidF
    rw [if_neg (fun hc => by rw [hc.2] at hb; cases hb), e1]
  · unfold kidF
    rw [if_neg (fun hc => by omega), e1]

theorem spec.heap_PushF (I : HeapI recv St lt) {u : H} {l : List α} {x : Value} {y : α} {K : H → Prop}
    (hpush : ∀ {K : H → Prop}, (∀ u', St u' (l ++ [y]) → K u') → ClI Tryz.prog recv "Push" #[x] [] u K)
    (hK : ∀ u', St u' (pushF lt l y) → K u') : C.heap_Push recv x u K := by
  apply vc.heap_Push
  refine hpush fun u' hs => I.len hs ?_
  have hsm := I.small hs
  simp only [List.length_append, List.length_singleton] at hsm ⊢
  refine ⟨⟨by omega, by omega⟩, spec.heap_upF I hs (by omega) (by simp only [List.length_append, List.length_singleton]; omega) fun u2 h2 => hK u2 ?_⟩
  have e : (((l.length + 1 : Nat) : Int) - 1).toNat = l.length := by omega
  rw [e] at h2
  exact h2

theorem spec.heap_PopF (I : HeapI recv St lt) (L : LtOk lt) {V : α → Value} {u : H} {l : List α} {K : Value → H → Prop} (hs : St u l) (hh : Hp lt l.length l) (hne : 0 < l.length)
    (hpop : ∀ {u' : H} {l' : List α} {x : α} {K : Value → H → Prop}, St u' (l' ++ [x]) → (∀ u'', St u'' l' → K (V x) u'') → ClI Tryz.prog recv "Pop" #[] [.one .val] u' K)
    (hK : ∀ u', St u' (popF lt l) → K (V (l.getD 0 default)) u') : C.heap_Pop recv u K := by
  obtain ⟨_, _, _, he⟩ := popF_ok L hh hne
  apply vc.heap_Pop
  have hsm := I.small hs
  refine I.len hs ⟨⟨by omega, by omega⟩, I.swap hs (by omega) (by omega) (by omega) (by omega) fun u1 hs1 => ?_⟩
  have e1 : (((l.length : Int) - 1).toNat) = l.length - 1 := by omega
  rw [e1, show (0 : Int).toNat = 0 from rfl] at hs1
  refine spec.heap_downH I hs1 (by omega) (by rw [swapL_len]; omega) (fun b u2 hs2 => ?_) (.inr (by omega)) (by rw [swapL_len]; omega)
  rw [e1, show (0 : Int).toNat = 0 from rfl, he] at hs2
  exact hpop hs2 hK

end
end Go.Proofs.YtbohcdjoglidhaaGreatDoor

/- VcWalkP -/
namespace Go.Proofs.YtbohcdjoglidhaaGreatDoor

abbrev Prw := Int × List Int

/-- A part: its region, its rows, its parts. -/
inductive Pt where
  | mk (sh : Int) (lo hi : List Int) (rad : Int) (rows : List Prw) (kids : List Pt)

instance : Inhabited Pt := ⟨.mk 1 [] [] 0 [] []⟩

namespace Pt
def sh : Pt → Int | .mk s _ _ _ _ _ => s
def lo : Pt → List Int | .mk _ l _ _ _ _ => l
def hi : Pt → List Int | .mk _ _ h _ _ _ => h
def rad : Pt → Int | .mk _ _ _ r _ _ => r
def rows : Pt → List Prw | .mk _ _ _ _ r _ => r
def kids : Pt → List Pt | .mk _ _ _ _ _ k => k

mutual
def all : Pt → List Prw
  | .mk _ _ _ _ rows kids => rows ++ allL kids
def allL : List Pt → List Prw
  | [] => []
  | p :: ps => p.all ++ allL ps
end

mutual
def size : Pt → Nat
  | .mk _ _ _ _ _ kids => 1 + sizeL kids
def sizeL : List Pt → Nat
  | [] => 0
  | p :: ps => p.size + sizeL ps
end

/-- Its region, with ids. -/
def rgn (p : Pt) (ids : List Int) : Rgn := ⟨p.sh, ⟨none, 0, 0⟩, ⟨none, 0, 0⟩, p.rad, ⟨none, 0, 0⟩, p.lo, p.hi, ids⟩

theorem all_eq (p : Pt) : p.all = p.rows ++ allL p.kids := by cases p; rfl
theorem size_eq (p : Pt) : p.size = 1 + sizeL p.kids := by cases p; rfl
end Pt

/-- A row of a pair. -/
def rwOf (x : Prw) : Rw := ⟨x.1, ⟨none, 0, 0⟩, x.2⟩
def hitP (q : List Int) (x : Prw) : Hit := (x.1, sqTo x.2 q x.2.length)
theorem hitP_of (q : List Int) (r : Rw) : hitP q r.pr = hitOf q r := rfl

/-- A region holds its part's rows, and its parts' do. -/
inductive PtOk (d : Int) : Pt → Prop where
  | mk {p : Pt} (reg : RegOk (p.rgn []) d) (ins : ∀ x ∈ p.all, Inside (p.rgn []) x.2) (kids : ∀ k ∈ p.kids, PtOk d k) : PtOk d p

theorem PtOk.reg {d : Int} {p : Pt} (h : PtOk d p) : RegOk (p.rgn []) d := by cases h; assumption
theorem PtOk.ins {d : Int} {p : Pt} (h : PtOk d p) : ∀ x ∈ p.all, Inside (p.rgn []) x.2 := by cases h; assumption
theorem PtOk.kids {d : Int} {p : Pt} (h : PtOk d p) : ∀ k ∈ p.kids, PtOk d k := by cases h; assumption

/-! ### the walk -/

abbrev Op1 := Int × Pt
def blt (a b : Op1) : Bool := decide (a.1 < b.1)

theorem bltOk : LtOk blt where
  asymm a b h := by simp [blt] at *; omega
  trans a b c h k := by simp [blt] at *; omega

noncomputable def addW (q : List Int) (l : List Op1) (p : Pt) : List Op1 := pushF blt l (nearR (p.rgn []) q, p)

/-- Where a walk is: the parts that were not looked at, the rows that were seen, what is left of parts that were looked at. -/
structure WS where
  heap : List Op1
  seen : List Prw
  rest : List (Pt × List Prw)

noncomputable def topW (q : List Int) (k : Int) (s : WS) : List Hit := topk k.toNat (s.seen.map (hitP q))

def fullW (q : List Int) (k : Int) (s : WS) (b : Int) : Prop := k ≤ (s.seen.length : Int) ∧ ((topW q k s).getD (k.toNat - 1) default).2 < b

/-- Does it go on? -/
def goW (q : List Int) (k b : Int) (s : WS) : Prop := s.heap ≠ [] ∧ (s.seen.length : Int) < b ∧ ¬ fullW q k s (s.heap.getD 0 default).1

noncomputable def stepW (q : List Int) (b : Int) (s : WS) : WS :=
  ⟨(s.heap.getD 0 default).2.kids.foldl (addW q) (popF blt s.heap), s.seen ++ (s.heap.getD 0 default).2.rows.take (b - s.seen.length).toNat,
    if ((s.heap.getD 0 default).2.rows.length : Int) ≤ b - s.seen.length then s.rest else s.rest ++ [((s.heap.getD 0 default).2, (s.heap.getD 0 default).2.rows.drop (b - s.seen.length).toNat)]⟩

open Classical in
noncomputable def loopW (q : List Int) (k b : Int) : Nat → WS → WS
  | 0, s => s
  | f + 1, s => if goW q k b s then loopW q k b f (stepW q b s) else s

noncomputable def startW (q : List Int) (ps : List Pt) : WS := ⟨ps.foldl (addW q) [], [], []⟩

noncomputable def walkE (q : List Int) (k b : Int) (ps : List Pt) : WS := loopW q k b (Pt.sizeL ps) (startW q ps)

/-- What is left out of a walk: the parts' rests, then the parts that were not looked at. -/
def leftW (s : WS) : List (Pt × List Prw) := s.rest ++ (s.heap.map fun x => (x.2, x.2.all)).filter fun x => !x.2.isEmpty

/-! ### what holds on the way -/

structure WOk (q : List Int) (b : Int) (P : List Prw) (s : WS) : Prop where
  hp : Hp blt s.heap.length s.heap
  near : ∀ x ∈ s.heap, x.1 = nearR (x.2.rgn []) q ∧ PtOk q.length x.2
  perm : (s.seen ++ (s.rest.flatMap (·.2) ++ s.heap.flatMap fun x => x.2.all)).Perm P
  few : (s.seen.length : Int) ≤ b
  cut : s.rest ≠ [] → (s.seen.length : Int) = b
  left : ∀ x ∈ s.rest, PtOk q.length x.1 ∧ x.2 ≠ [] ∧ ∀ y ∈ x.2, y ∈ x.1.all

theorem foldl_add {q : List Int} : ∀ (ps : List Pt) (l : List Op1), Hp blt l.length l → Hp blt (ps.foldl (addW q) l).length (ps.foldl (addW q) l) ∧ (ps.foldl (addW q) l).Perm (l ++ ps.map fun p => (nearR (p.rgn []) q, p)) := by
  intro ps
  induction ps with
  | nil => intro l h; exact ⟨h, by simp⟩
  | cons p ps ih =>
    intro l h
    obtain ⟨h1, h2⟩ := pushF_ok bltOk (y := ((nearR (p.rgn []) q, p) : Op1)) h
    obtain ⟨h3, h4⟩ := ih _ h2
    refine ⟨h3, h4.trans ?_⟩
    rw [List.map_cons]
    refine (h1.append_right _).trans ?_
    rw [List.append_assoc]
    exact .refl _

theorem allL_flat (ps : List Pt) : Pt.allL ps = ps.flatMap fun p => p.all := by
  induction ps with
  | nil => rfl
  | cons p ps ih => rw [List.flatMap_cons, ← ih]; rfl

theorem startW_ok {q : List Int} {b : Int} {ps : List Pt} (hb : 0 ≤ b) (h : ∀ p ∈ ps, PtOk q.length p) : WOk q b (Pt.allL ps) (startW q ps) := by
  have h0 : Hp blt ([] : List Op1).length [] := fun i _ hi => by simp at hi
  obtain ⟨h1, h2⟩ := foldl_add (q := q) ps [] h0
  rw [List.nil_append] at h2
  refine ⟨h1, fun x hx => ?_, ?_, by show ((0 : Nat) : Int) ≤ b; omega, fun e => absurd rfl e, fun x hx => by cases hx⟩
  · obtain ⟨p, hp, rfl⟩ := List.mem_map.1 (h2.mem_iff.1 hx)
    exact ⟨rfl, h p hp⟩
  · show ([] ++ ([] ++ _)).Perm _
    rw [List.nil_append, List.nil_append, allL_flat]
    refine (h2.flatMap_right _).trans (List.Perm.of_eq ?_)
    rw [List.flatMap_map]

theorem getD_mem {α : Type} [Inhabited α] {l : List α} (h : l ≠ []) : l.getD 0 default ∈ l := by
  cases l with
  | nil => exact absurd rfl h
  | cons x l => exact List.mem_cons_self ..

theorem stepW_ok {q : List Int} {k b : Int} {P : List Prw} {s : WS} (h : WOk q b P s) (hg : goW q k b s) : WOk q b P (stepW q b s) := by
  obtain ⟨hne, hlt, _⟩ := hg
  have hl : 0 < s.heap.length := List.length_pos_iff.2 hne
  obtain ⟨p1, p2, p3, _⟩ := popF_ok bltOk h.hp hl
  have hr0 : s.rest = [] := by
    by_cases e : s.rest = []
    · exact e
    · have := h.cut e; omega
  obtain ⟨hx1, hx2⟩ := h.near _ (getD_mem hne)
  unfold stepW
  generalize hx : s.heap.getD 0 default = x at *
  obtain ⟨f1, f2⟩ := foldl_add (q := q) x.2.kids _ p2
  refine ⟨f1, fun y hy => ?_, ?_, ?_, fun e => ?_, fun y hy => ?_⟩
  · rcases List.mem_append.1 (f2.mem_iff.1 hy) with h1 | h1
    · exact h.near y (p1.mem_iff.1 (List.mem_cons_of_mem _ h1))
    · obtain ⟨p, hp, rfl⟩ := List.mem_map.1 h1
      exact ⟨rfl, hx2.kids p hp⟩
  · have hperm := h.perm
    rw [hr0, List.flatMap_nil, List.nil_append] at hperm
    refine List.Perm.trans ?_ hperm
    show ((s.seen ++ x.2.rows.take (b - s.seen.length).toNat) ++ (List.flatMap (fun y : Pt × List Prw => y.2) (if (x.2.rows.length : Int) ≤ b - s.seen.length then s.rest else s.rest ++ [(x.2, x.2.rows.drop (b - s.seen.length).toNat)]) ++ List.flatMap (fun x => x.2.all) (x.2.kids.foldl (addW q) (popF blt s.heap)))).Perm _
    rw [List.append_assoc]
    refine List.Perm.append_left _ ?_
    have hheap : (List.flatMap (fun x => x.2.all) (x.2.kids.foldl (addW q) (popF blt s.heap))).Perm ((popF blt s.heap).flatMap (fun x => x.2.all) ++ Pt.allL x.2.kids) := by
      refine (f2.flatMap_right _).trans ?_
      rw [List.flatMap_append, List.flatMap_map, allL_flat]
    have hold : (s.heap.flatMap fun x => x.2.all).Perm (x.2.all ++ (popF blt s.heap).flatMap fun x => x.2.all) := by
      refine (p1.symm.flatMap_right _).trans ?_
      rw [List.flatMap_cons]
    refine List.Perm.trans ?_ hold.symm
    rw [Pt.all_eq]
    have key : (x.2.rows.take (b - s.seen.length).toNat ++ List.flatMap (·.2) (if (x.2.rows.length : Int) ≤ b - s.seen.length then s.rest else s.rest ++ [(x.2, x.2.rows.drop (b - s.seen.length).toNat)])) = x.2.rows := by
      rw [hr0]
      split
      · rw [List.flatMap_nil, List.append_nil, List.take_of_length_le (by omega)]
      · simp
    rw [← List.append_assoc, key]
    refine (List.Perm.append_left _ hheap).trans ?_
    rw [List.append_assoc]
    exact List.Perm.append_left _ List.perm_append_comm
  · show (((s.seen ++ x.2.rows.take _).length : Nat) : Int) ≤ b
    rw [List.length_append, List.length_take]
    omega
  · show (((s.seen ++ x.2.rows.take _).length : Nat) : Int) = b
    rw [List.length_append, List.length_take]
    by_cases hc : (x.2.rows.length : Int) ≤ b - s.seen.length
    · exact absurd (by show (if _ then s.rest else _) = []; rw [if_pos hc]; exact hr0) e
    · omega
  · change y ∈ (if (x.2.rows.length : Int) ≤ b - s.seen.length then s.rest else s.rest ++ [(x.2, x.2.rows.drop (b - s.seen.length).toNat)]) at hy
    rw [hr0] at hy
    split at hy
    · cases hy
    · rename_i hc
      rw [List.nil_append] at hy
      have := List.mem_singleton.1 hy
      subst this
      refine ⟨hx2, fun e => ?_, fun z hz => ?_⟩
      · have := congrArg List.length e
        rw [List.length_drop, List.length_nil] at this
        omega
      · rw [Pt.all_eq]
        exact List.mem_append_left _ (List.mem_of_mem_drop hz)

theorem sizeL_app (a b : List Pt) : Pt.sizeL (a ++ b) = Pt.sizeL a + Pt.sizeL b := by
  induction a with
  | nil => simp [Pt.sizeL]
  | cons p a ih => simp only [List.cons_append, Pt.sizeL, ih]; omega

theorem sizeL_perm {a b : List Pt} (h : a.Perm b) : Pt.sizeL a = Pt.sizeL b := by
  induction h with
  | nil => rfl
  | cons x _ ih => simp only [Pt.sizeL, ih]
  | swap x y l => simp only [Pt.sizeL]; omega
  | trans _ _ h1 h2 => exact h1.trans h2

theorem step_size {q : List Int} {k b : Int} {P : List Prw} {s : WS} (h : WOk q b P s) (hg : goW q k b s) : Pt.sizeL ((stepW q b s).heap.map (·.2)) + 1 = Pt.sizeL (s.heap.map (·.2)) := by
  have hl : 0 < s.heap.length := List.length_pos_iff.2 hg.1
  obtain ⟨p1, p2, p3, _⟩ := popF_ok bltOk h.hp hl
  obtain ⟨f1, f2⟩ := foldl_add (q := q) (s.heap.getD 0 default).2.kids _ p2
  have e1 : Pt.sizeL ((stepW q b s).heap.map (·.2)) = Pt.sizeL ((popF blt s.heap).map (·.2)) + Pt.sizeL (s.heap.getD 0 default).2.kids := by
    show Pt.sizeL (List.map (fun x => x.2) (List.foldl (addW q) (popF blt s.heap) (s.heap.getD 0 default).2.kids)) = _
    rw [sizeL_perm (f2.map _), List.map_append, sizeL_app, List.map_map]
    congr 2
    exact List.map_id' _
  have e2 : Pt.sizeL (s.heap.map (·.2)) = (s.heap.getD 0 default).2.size + Pt.sizeL ((popF blt s.heap).map (·.2)) := by
    rw [← sizeL_perm (p1.map _), List.map_cons]
    rfl
  rw [e1, e2, Pt.size_eq]
  omega

/-- The walk has ended where it does not go on. -/
theorem loopW_end {q : List Int} {k b : Int} {P : List Prw} : ∀ (f : Nat) (s : WS), WOk q b P s → Pt.sizeL (s.heap.map (·.2)) ≤ f → WOk q b P (loopW q k b f s) ∧ ¬ goW q k b (loopW q k b f s) := by
  intro f
  induction f with
  | zero =>
    intro s h hs
    refine ⟨h, fun hg => ?_⟩
    have hne := hg.1
    cases e : s.heap with
    | nil => exact hne e
    | cons x l =>
      rw [e] at hs
      simp only [List.map_cons, Pt.sizeL] at hs
      have := Pt.size_eq x.2
      omega
  | succ f ih =>
    intro s h hs
    unfold loopW
    split
    · rename_i hg
      have := step_size h hg
      exact ih _ (stepW_ok h hg) (by omega)
    · rename_i hg
      exact ⟨h, hg⟩

theorem walkE_ok {q : List Int} {k b : Int} {ps : List Pt} (hb : 0 ≤ b) (h : ∀ p ∈ ps, PtOk q.length p) : WOk q b (Pt.allL ps) (walkE q k b ps) ∧ ¬ goW q k b (walkE q k b ps) := by
  refine loopW_end _ _ (startW_ok hb h) ?_
  have h0 : Hp blt ([] : List Op1).length [] := fun i _ hi => by simp at hi
  obtain ⟨h1, h2⟩ := foldl_add (q := q) ps [] h0
  rw [List.nil_append] at h2
  show Pt.sizeL ((ps.foldl (addW q) []).map (·.2)) ≤ _
  rw [sizeL_perm (h2.map _), List.map_map]
  exact Nat.le_of_eq (congrArg _ (List.map_id' _))

end Go.Proofs.YtbohcdjoglidhaaGreatDoor

/- VcQue -/
namespace Go.Proofs.YtbohcdjoglidhaaGreatDoor

theorem qLen : methB Tryz.prog 281 "Len" 200 false = true := by kernel_rfl
theorem qLess : methB Tryz.prog 281 "Less" 267 false = true := by kernel_rfl
theorem qSwap : methB Tryz.prog 281 "Swap" 268 false = true := by kernel_rfl
theorem qPush : methB Tryz.prog 281 "Push" 270 true = true := by kernel_rfl
theorem qPop : methB Tryz.prog 281 "Pop" 269 true = true := by kernel_rfl
theorem shQue : shOf Tryz.prog 280 = some (.one .slice) := by kernel_rfl
theorem undQue : Tryz.prog.underlying 281 = some (.pointer 280) := by kernel_rfl
theorem tQue : elemT Tryz.prog 280 = some (283, 3, 24, [.pointer none, .int .u64 0, .int .u64 0]) := by kernel_rfl
theorem build_que (x : Option Addr) (y z : Int) : buildOf Tryz.prog 280 1 #[(0, .agg #[.pointer x, .int .u64 y, .int .u64 z])] = some (283, [.pointer x, .int .u64 y, .int .u64 z]) := by kernel_rfl
theorem qbLen : hasBody Tryz.prog 200 = true := by kernel_rfl
theorem qbLess : hasBody Tryz.prog 267 = true := by kernel_rfl
theorem qbSwap : hasBody Tryz.prog 268 = true := by kernel_rfl
theorem qbPush : hasBody Tryz.prog 270 = true := by kernel_rfl
theorem qbPop : hasBody Tryz.prog 269 = true := by kernel_rfl

/-- A part that was not looked at, with its address. -/
abbrev QE := Addr × Op1
instance : Inhabited QE := ⟨(⟨0, 0, none⟩, default)⟩
def qlt (a b : QE) : Bool := blt a.2 b.2
def encQ (e : QE) : List Value := [.pointer (some e.1), .int .u64 (hiW e.2.1), .int .u64 (loW e.2.1)]
theorem encQ_len (e : QE) : (encQ e).length = 3 := rfl
theorem encQ_one (e : QE) : ∀ v ∈ encQ e, v.oneCell' = true := by simp [encQ, Value.oneCell']

def Qs (u : H) (s : Sl) (l : List QE) : Prop := Seg u s 3 (l.flatMap encQ)
theorem Qs.len {u : H} {s : Sl} {l : List QE} (h : Qs u s l) : s.n = l.length := flat_n encQ_len (by decide) h
theorem OwnF.qs {u0 u : H} {e : Nat} {s : Sl} {l : List QE} (h : OwnF u0 u e 3 s (l.flatMap encQ)) : Qs u s l := h.own.seg
theorem Qs.at {u : H} {s : Sl} {l : List QE} (h : Qs u s l) {x : Int} (h0 : 0 ≤ x) (h1 : x < (s.n : Int)) : ∃ p, s.a = some p ∧ ∃ q : QE, l[x.toNat]? = some q ∧
    u.cell? (p.add (x.toNat * 3)) = some (.pointer (some q.1)) ∧ u.cell? ((p.add (x.toNat * 3)).add 1) = some (.int .u64 (hiW q.2.1)) ∧ u.cell? ((p.add (x.toNat * 3)).add 2) = some (.int .u64 (loW q.2.1)) := by
  have hn := h.len
  have hl : x.toNat < l.length := by omega
  obtain ⟨p, hp, hc⟩ := Seg.elem encQ_len (by decide) h (List.getElem?_eq_getElem hl)
  exact ⟨p, hp, _, List.getElem?_eq_getElem hl, hc 0 _ rfl, hc 1 _ rfl, hc 2 _ rfl⟩

theorem flat_pushQ (l : List QE) (x : QE) : l.flatMap encQ ++ [.pointer (some x.1), .int .u64 (hiW x.2.1), .int .u64 (loW x.2.1)] = (l ++ [x]).flatMap encQ := by simp [encQ]

/-- A queue in block n. -/
structure QueSt (u0 : H) (n : Nat) (u : H) (l : List QE) : Prop where
  ex : ∃ s : Sl, u n = some (.cells #[.slice s.a s.n s.c] 280 (0, 0)) ∧ OwnF u0 u 283 3 s (l.flatMap encQ) ∧ s.blk ≠ some n
  out : u0 n = none
  small : l.length ≤ 10000000

def queV (n : Nat) : Value := .iface 281 (.pointer (some (Addr.mk n 0 none)))

theorem que_val {u : H} {n : Nat} {s : Sl} {name : String} {f : FuncId} (hm : methB Tryz.prog 281 name f false = true) (hn : u n = some (.cells #[.slice s.a s.n s.c] 280 (0, 0))) (w : World) (hw : Sub u w) :
    (method (Tryz.prog.types.size + Made.depth) 281 (.pointer (some (Addr.mk n 0 none))) name).run Tryz.prog w = .ok (f, .slice s.a s.n s.c) w := by
  obtain ⟨i, m, h1, h2, h3, h4⟩ := methB_spec hm
  obtain ⟨k', hk'⟩ := fuelOk
  rw [hk']
  refine run_method_val h1 h2 h3 h4 undQue ?_
  have hc : u.cell? (Addr.mk n 0 none) = some (.slice s.a s.n s.c) := H.cell?_of hn 0
  have hcw := hw.cell hc
  exact loadVar_run shQue (Addr.mk n 0 none) (vs := [.slice s.a s.n s.c]) rfl (run_loadCellsFrom_list _ _ _ _ _ rfl (fun j v hj => by
    cases j with
    | zero => simp at hj; subst hj; exact hcw
    | succ j => simp at hj)) (fun c hc => ⟨_, rfl, hcw⟩)

theorem spec.flat_queue__Less {s : Sl} {l : List QE} {i j : Int} {u : H} {K : Bool → H → Prop} (hs : Qs u s l) (i0 : 0 ≤ i) (i1 : i < l.length) (j0 : 0 ≤ j) (j1 : j < l.length)
    (h : K (qlt (l.getD i.toNat default) (l.getD j.toNat default)) u) : C.flat_queue__Less s i j u K := by
  have hn := hs.len
  apply vc.flat_queue__Less
  obtain ⟨p, hp, x, hx, c0, c1, c2⟩ := hs.at j0 (show j < (s.n : Int) by omega)
  obtain ⟨q, hq, y, hy, d0, d1, d2⟩ := hs.at i0 (show i < (s.n : Int) by omega)
  rw [show l.getD i.toNat default = y by rw [List.getD_eq_getElem?_getD, hy]; rfl, show l.getD j.toNat default = x by rw [List.getD_eq_getElem?_getD, hx]; rfl] at h
  refine ⟨q, hq, ⟨i0, by omega⟩, p, hp, ⟨j0, by omega⟩, _, d1, _, by rw [Addr.add_add']; exact d2, _, c1, _, by rw [Addr.add_add']; exact c2, spec.wide_Cmp (loU _) (loU _) ?_⟩
  rw [wv_hl, wv_hl]
  have key : ∀ z : Int, (z < 0 ↔ y.2.1 < x.2.1) → K (decide (z < 0)) u := fun z hz => by
    have : decide (z < 0) = qlt y x := by unfold qlt blt; simp [hz]
    rw [this]; exact h
  refine key _ ?_
  split
  · omega
  · split <;> omega

theorem spec.flat_queue__Swap {u0 u : H} {s : Sl} {l : List QE} {i j : Int} {K : H → Prop} (ho : OwnF u0 u 283 3 s (l.flatMap encQ)) (i0 : 0 ≤ i) (i1 : i < l.length) (j0 : 0 ≤ j) (j1 : j < l.length)
    (h : ∀ u', OwnF u0 u' 283 3 s ((swapL l i.toNat j.toNat).flatMap encQ) → Else u u' s → K u') : C.flat_queue__Swap s i j u K := by
  have hs := ho.qs
  have hn := hs.len
  apply vc.flat_queue__Swap
  obtain ⟨p, hp, x, hx, c0, c1, c2⟩ := hs.at j0 (show j < (s.n : Int) by omega)
  obtain ⟨q, hq, y, hy, d0, d1, d2⟩ := hs.at i0 (show i < (s.n : Int) by omega)
  refine ⟨p, hp, ⟨j0, by omega⟩, q, hq, ⟨i0, by omega⟩, _, c0, _, c1, _, c2, _, d0, _, d1, _, d2, q, hq, ⟨i0, by omega⟩, ?_⟩
  refine OwnF.store (enc := encQ) encQ_len ho (by decide) (i := i.toNat) (by omega) (y := x) (encQ_one x) hq fun u1 ho1 he1 _ => ⟨p, hp, ⟨j0, by omega⟩, ?_⟩
  refine OwnF.store (enc := encQ) encQ_len ho1 (by decide) (i := j.toNat) (by simp; omega) (y := y) (encQ_one y) hp fun u2 ho2 he2 _ => h u2 ?_ (fun b o hb hne => he2 b o (he1 b o hb hne) hne)
  have hil : i.toNat < l.length := by omega
  have hjl : j.toNat < l.length := by omega
  have ex : l[j.toNat] = x := by rw [List.getElem?_eq_getElem hjl] at hx; exact Option.some.inj hx
  have ey : l[i.toNat] = y := by rw [List.getElem?_eq_getElem hil] at hy; exact Option.some.inj hy
  rw [swapL_eq hil hjl, ex, ey]
  exact ho2

theorem QueSt.set {u0 u u' : H} {n : Nat} {l l' : List QE} {s : Sl} (h : QueSt u0 n u l) (hn : u n = some (.cells #[.slice s.a s.n s.c] 280 (0, 0))) (hs : s.blk ≠ some n)
    (ho : OwnF u0 u' 283 3 s (l'.flatMap encQ)) (he : Else u u' s) (hl : l'.length = l.length) : QueSt u0 n u' l' :=
  ⟨⟨s, he _ _ hn hs, ho, hs⟩, h.out, by rw [hl]; exact h.small⟩

theorem queHeap (u0 : H) (n : Nat) : HeapI (queV n) (QueSt u0 n) qlt where
  len := by
    intro u l K h hK
    obtain ⟨s, hn, ho, _⟩ := h.ex
    refine ⟨_, _, _, _, rfl, fun w hw => que_val qLen hn w hw, bodyOf qbLen, vc.flat_queue__Len s u K ?_⟩
    rw [ho.qs.len]; exact hK
  less := by
    intro u l i j K h i0 i1 j0 j1 hK
    obtain ⟨s, hn, ho, _⟩ := h.ex
    exact ⟨_, _, _, _, rfl, fun w hw => que_val qLess hn w hw, bodyOf qbLess, spec.flat_queue__Less ho.qs i0 i1 j0 j1 hK⟩
  swap := by
    intro u l i j K h i0 i1 j0 j1 hK
    obtain ⟨s, hn, ho, hne⟩ := h.ex
    exact ⟨_, _, _, _, rfl, fun w hw => que_val qSwap hn w hw, bodyOf qbSwap, spec.flat_queue__Swap ho i0 i1 j0 j1 fun u' ho' he => hK u' (h.set hn hne ho' he (swapL_len _ _ _))⟩
  small := fun h => by have := h.small; omega

theorem queLt : LtOk qlt where
  asymm := fun _ _ h => bltOk.asymm _ _ h
  trans := fun _ _ _ h k => bltOk.trans _ _ _ h k

theorem assertQ' (h : QE) (w : World) : (Instr.typeAssert (.iface 283 (.agg #[.pointer (some h.1), .int .u64 (hiW h.2.1), .int .u64 (loW h.2.1)])) 20 283 false).run Tryz.prog w =
    .ok (.agg #[.pointer (some h.1), .int .u64 (hiW h.2.1), .int .u64 (loW h.2.1)]) w := by kernel_rfl

/-- A hit as an interface's value. -/
def queI (h : QE) : Value := .iface 283 (.agg #[.pointer (some h.1), .int .u64 (hiW h.2.1), .int .u64 (loW h.2.1)])

theorem sem_assertQ {h : QE} {u : H} {K : Option Addr → Int → Int → H → Prop} (hK : K (some h.1) (hiW h.2.1) (loW h.2.1) u) : SemT Tryz.prog (Instr.typeAssert (queI h) 20 283 false) [.agg [.ptr, .int .u64, .int .u64]] u K :=
  SemT.pure [.pointer (some h.1), .int .u64 (hiW h.2.1), .int .u64 (loW h.2.1)] (fun w _ => assertQ' h w) (.cons (t := .ptr) (some h.1) (.cons (t := .int .u64) _ (.cons (t := .int .u64) _ .nil))) hK

theorem que_push {u0 u : H} {n : Nat} {l : List QE} {x : QE} {K : H → Prop} (h : QueSt u0 n u l) (hl : l.length < 10000000) (hK : ∀ u', QueSt u0 n u' (l ++ [x]) → K u') :
    ClI Tryz.prog (queV n) "Push" #[queI x] [] u K := by
  obtain ⟨s, hn, ho, hne⟩ := h.ex
  obtain ⟨i, m, h1, h2, h3, h4⟩ := methB_spec qPush
  obtain ⟨k', hk'⟩ := fuelOk
  refine ⟨_, _, _, _, rfl, fun w _ => by rw [hk']; exact run_method_ptr h1 h2 h3 h4 undQue, bodyOf qbPush, ?_⟩
  refine vc.flat_queue__Push (some (Addr.mk n 0 none)) _ u K ?_
  refine ⟨_, rfl, s, H.cell?_of hn 0, sem_assertQ ⟨H.le.refl u, ?_⟩⟩
  have hp := sem_push (P := Tryz.prog) (K := fun s8 u9 => ∃ r10 : Addr, some (Addr.mk n 0 none) = some r10 ∧ H.St u9 r10 [.slice s8.a s8.n s8.c] K) tQue (build_que (some x.1) (hiW x.2.1) (loW x.2.1)) (by decide) rfl (by simp [Value.oneCell']) ho (by have := ho.qs.len; omega) (by have := ho.qs.len; omega) fun s' u' ho' hn' he hblk _ => ⟨_, rfl, ?_⟩
  · exact hp
  · have hn2 := he _ _ hn hne
    have hne' : s'.blk ≠ some n := fun e => by
      rcases hblk n e with h | h
      · exact hne h
      · rw [hn] at h; cases h
    refine ⟨_, _, hn2, rfl, by simp, by simp [Value.oneCell'], hK _ ⟨⟨s', H.ins_same _ _ _, ⟨?_, ?_, ho'.fresh⟩, hne'⟩, h.out, by simp; omega⟩⟩
    · rw [flat_pushQ] at ho'
      exact ho'.own.le fun b o hb hub => by rw [H.ins_other _ _ (fun e => hne' (by rw [hb, e]))]; exact hub
    · intro b o hb
      rw [H.ins_other _ _ (fun e => by rw [e, h.out] at hb; cases hb)]
      exact ho'.le b o hb

theorem que_pop {u0 u : H} {n : Nat} {l : List QE} {K : Value → H → Prop} (h : QueSt u0 n u l) (hl : 0 < l.length) (hK : ∀ u', QueSt u0 n u' l.dropLast → K (queI (l.getD (l.length - 1) default)) u') :
    ClI Tryz.prog (queV n) "Pop" #[] [.one .val] u K := by
  obtain ⟨s, hn, ho, hne⟩ := h.ex
  obtain ⟨i, m, h1, h2, h3, h4⟩ := methB_spec qPop
  obtain ⟨k', hk'⟩ := fuelOk
  refine ⟨_, _, _, _, rfl, fun w _ => by rw [hk']; exact run_method_ptr h1 h2 h3 h4 undQue, bodyOf qbPop, ?_⟩
  refine vc.flat_queue__Pop (some (Addr.mk n 0 none)) u K ?_
  have hsn := ho.qs.len
  have hc : u.cell? (Addr.mk n 0 none) = some (.slice s.a s.n s.c) := H.cell?_of hn 0
  have hsm := h.small
  obtain ⟨p, hp, x, hx, c0, c1, c2⟩ := ho.qs.at (x := (s.n : Int) - 1) (by omega) (by omega)
  have hxl : l.getD (l.length - 1) default = x := by
    rw [show ((s.n : Int) - 1).toNat = l.length - 1 by omega] at hx
    rw [List.getD_eq_getElem?_getD, hx]; rfl
  intro K0 hK0
  refine ⟨_, rfl, _, rfl, s, hc, s, hc, ⟨by omega, by omega⟩, p, hp, ⟨by omega, by omega⟩, _, c0, _, c1, _, c2, fun m hm => ⟨H.le_ins _ hm, ?_⟩⟩
  have hmn : m ≠ n := fun e => by rw [e, hn] at hm; cases hm
  refine ⟨_, _, H.ins_same _ _ _, rfl, by simp, by simp [Value.oneCell'], hK0 _ _ ⟨_, rfl, _, rfl, s, ?_, s, ?_, ⟨by omega, by omega⟩, ?_⟩⟩
  · simp only [H.cell?, H.ins_other _ _ (Ne.symm hmn)]; simpa [H.cell?] using hc
  · simp only [H.cell?, H.ins_other _ _ (Ne.symm hmn)]; simpa [H.cell?] using hc
  have hcap : s.n ≤ s.c := (Seg.cap ho.own.seg)
  obtain ⟨hf, hfb, hfn⟩ := ho.front (m := s.n - 1) (by omega)
  refine sem_slice (P := Tryz.prog) tQue (l := 0) (h := s.n - 1) (m := s.c) (.inl ⟨rfl, rfl⟩) (.inr ?_) (.inl ⟨rfl, rfl⟩) (by omega) (by omega) (Nat.le_refl _) hcap ⟨_, rfl, ?_⟩
  · rw [show ((s.n : Int) - 1) = ((s.n - 1 : Nat) : Int) by omega]
  refine ⟨_, _, by simp only []; rw [H.ins_other _ _ (Ne.symm hmn), H.ins_other _ _ (Ne.symm hmn)]; exact hn, rfl, by simp, by simp [Value.oneCell'], ?_⟩
  have hcm : ∀ (j : Nat) v, ([.pointer (some x.1), .int .u64 (hiW x.2.1), .int .u64 (loW x.2.1)] : List Value)[j]? = some v → H.cell? ((((u.ins m (.cells #[.pointer none, .int .u64 0, .int .u64 0] 283 (0, 0))).ins m (.cells (wr #[.pointer none, .int .u64 0, .int .u64 0] 0 [.pointer (some x.1), .int .u64 (hiW x.2.1), .int .u64 (loW x.2.1)]) 283 (0, 0))).ins n
      (.cells (wr #[.slice s.a s.n s.c] 0 [.slice (s.part 0 (s.n - 1) s.c 3).a (s.part 0 (s.n - 1) s.c 3).n (s.part 0 (s.n - 1) s.c 3).c]) 280 (0, 0)))) ((Addr.mk m 0 none).add j) = some v := by
    intro j v hj
    simp only [H.cell?, Addr.add_lit, Nat.zero_add, H.ins_other _ _ hmn, H.ins_same]
    rcases j with _ | _ | _ | j
    · simpa [wr] using hj
    · simpa [wr] using hj
    · simpa [wr] using hj
    · simp at hj
  have d0 := hcm 0 _ rfl
  have d1 := hcm 1 _ rfl
  have d2 := hcm 2 _ rfl
  rw [Addr.add_zero'] at d0
  refine ⟨_, d0, _, d1, _, d2, ?_⟩
  have e : queI x = queI (l.getD (l.length - 1) default) := by rw [hxl]
  show K (queI x) _
  rw [e]
  have hxs : (l.flatMap encQ).take ((s.n - 1) * 3) = l.dropLast.flatMap encQ := by
    rw [flat_take encQ_len, hsn, List.dropLast_eq_take]
  rw [hxs] at hf
  have hbn : (s.part 0 (s.n - 1) s.c 3).blk ≠ some n := by rw [hfb]; exact hne
  refine hK _ ⟨⟨_, H.ins_same _ _ _, ⟨?_, ?_, hf.fresh⟩, hbn⟩, h.out, by simp; omega⟩
  · refine hf.own.le fun b o hb hub => ?_
    rw [H.ins_other _ _ (fun e => hbn (by rw [hb, e])), H.ins_other _ _ (fun e => by rw [e, hm] at hub; cases hub), H.ins_other _ _ (fun e => by rw [e, hm] at hub; cases hub)]
    exact hub
  · intro b o hb
    have hbu := hf.le b o hb
    rw [H.ins_other _ _ (fun e => by rw [e, h.out] at hb; cases hb), H.ins_other _ _ (fun e => by rw [e, hm] at hbu; cases hbu), H.ins_other _ _ (fun e => by rw [e, hm] at hbu; cases hbu)]
    exact hbu

end Go.Proofs.YtbohcdjoglidhaaGreatDoor
