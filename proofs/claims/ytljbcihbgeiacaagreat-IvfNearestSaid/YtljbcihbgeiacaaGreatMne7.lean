/- Texts of mine, joined by merge.py: VcWalkP, VcQue, VcVec, VcPart, VcReg, VcAll, VcDone, VcMeans, VcBall, VcMaps, VcIxB, VcIv0, VcWalkS, VcSort2, VcOwn, VcIv1, VcRowF, VcIv2, VcIv3. -/
import Derived.Test.YtljbcihbgeiacaaGreatMne6
import Derived.Lib.EndianBits
import Derived.Laws.NewFold
import Derived.Maps.RangeRun
import Derived.Shelf.SlSortCmp.Whole1
set_option maxRecDepth 100000

/- VcWalkP -/
namespace Go.Proofs.YtljbcihbgeiacaaGreat

abbrev Prw := Int × List Int

/-- A part: its region, its rows, its parts. -/
inductive Pt where
  | mk (sh : Int) (lo hi : List Int) (rad : Int) (rows : List Prw) (kids : List Pt)

instance : Inhabited Pt := ⟨.mk 1 [] [] 0 [] []⟩

namespace Pt
def sh : Pt → Int | .mk s _ _ _ _ _ => s
def lo : Pt → List Int | .mk _ l _ _ _ _ => l
def hi : Pt → List Int | .mk _ _ h _ _ _ => h
def rad : Pt → Int | .mk _ _ _ r _ _ => r
def rows : Pt → List Prw | .mk _ _ _ _ r _ => r
def kids : Pt → List Pt | .mk _ _ _ _ _ k => k

mutual
def all : Pt → List Prw
  | .mk _ _ _ _ rows kids => rows ++ allL kids
def allL : List Pt → List Prw
  | [] => []
  | p :: ps => p.all ++ allL ps
end

mutual
def size : Pt → Nat
  | .mk _ _ _ _ _ kids => 1 + sizeL kids
def sizeL : List Pt → Nat
  | [] => 0
  | p :: ps => p.size + sizeL ps
end

/-- Its region, with ids. -/
def rgn (p : Pt) (ids : List Int) : Rgn := ⟨p.sh, ⟨none, 0, 0⟩, ⟨none, 0, 0⟩, p.rad, ⟨none, 0, 0⟩, p.lo, p.hi, ids⟩

theorem all_eq (p : Pt) : p.all = p.rows ++ allL p.kids := by cases p; rfl
theorem size_eq (p : Pt) : p.size = 1 + sizeL p.kids := by cases p; rfl
end Pt

/-- A row of a pair. -/
def rwOf (x : Prw) : Rw := ⟨x.1, ⟨none, 0, 0⟩, x.2⟩
def hitP (q : List Int) (x : Prw) : Hit := (x.1, sqTo x.2 q x.2.length)
theorem hitP_of (q : List Int) (r : Rw) : hitP q r.pr = hitOf q r := rfl

/-- A region holds its part's rows, and its parts' do. -/
inductive PtOk (d : Int) : Pt → Prop where
  | mk {p : Pt} (reg : RegOk (p.rgn []) d) (ins : ∀ x ∈ p.all, Inside (p.rgn []) x.2) (kids : ∀ k ∈ p.kids, PtOk d k) : PtOk d p

theorem PtOk.reg {d : Int} {p : Pt} (h : PtOk d p) : RegOk (p.rgn []) d := by cases h; assumption
theorem PtOk.ins {d : Int} {p : Pt} (h : PtOk d p) : ∀ x ∈ p.all, Inside (p.rgn []) x.2 := by cases h; assumption
theorem PtOk.kids {d : Int} {p : Pt} (h : PtOk d p) : ∀ k ∈ p.kids, PtOk d k := by cases h; assumption

/-! ### the walk -/

abbrev Op1 := Int × Pt
def blt (a b : Op1) : Bool := decide (a.1 < b.1)

theorem bltOk : LtOk blt where
  asymm a b h := by simp [blt] at *; omega
  trans a b c h k := by simp [blt] at *; omega

noncomputable def addW (q : List Int) (l : List Op1) (p : Pt) : List Op1 := pushF blt l (nearR (p.rgn []) q, p)

/-- Where a walk is: the parts that were not looked at, the rows that were seen, what is left of parts that were looked at. -/
structure WS where
  heap : List Op1
  seen : List Prw
  rest : List (Pt × List Prw)

noncomputable def topW (q : List Int) (k : Int) (s : WS) : List Hit := topk k.toNat (s.seen.map (hitP q))

def fullW (q : List Int) (k : Int) (s : WS) (b : Int) : Prop := k ≤ (s.seen.length : Int) ∧ ((topW q k s).getD (k.toNat - 1) default).2 < b

/-- Does it go on? -/
def goW (q : List Int) (k b : Int) (s : WS) : Prop := s.heap ≠ [] ∧ (s.seen.length : Int) < b ∧ ¬ fullW q k s (s.heap.getD 0 default).1

noncomputable def stepW (q : List Int) (b : Int) (s : WS) : WS :=
  ⟨(s.heap.getD 0 default).2.kids.foldl (addW q) (popF blt s.heap), s.seen ++ (s.heap.getD 0 default).2.rows.take (b - s.seen.length).toNat,
    if ((s.heap.getD 0 default).2.rows.length : Int) ≤ b - s.seen.length then s.rest else s.rest ++ [((s.heap.getD 0 default).2, (s.heap.getD 0 default).2.rows.drop (b - s.seen.length).toNat)]⟩

open Classical in
noncomputable def loopW (q : List Int) (k b : Int) : Nat → WS → WS
  | 0, s => s
  | f + 1, s => if goW q k b s then loopW q k b f (stepW q b s) else s

noncomputable def startW (q : List Int) (ps : List Pt) : WS := ⟨ps.foldl (addW q) [], [], []⟩

noncomputable def walkE (q : List Int) (k b : Int) (ps : List Pt) : WS := loopW q k b (Pt.sizeL ps) (startW q ps)

/-- What is left out of a walk: the parts' rests, then the parts that were not looked at. -/
def leftW (s : WS) : List (Pt × List Prw) := s.rest ++ (s.heap.map fun x => (x.2, x.2.all)).filter fun x => !x.2.isEmpty

/-! ### what holds on the way -/

structure WOk (q : List Int) (b : Int) (P : List Prw) (s : WS) : Prop where
  hp : Hp blt s.heap.length s.heap
  near : ∀ x ∈ s.heap, x.1 = nearR (x.2.rgn []) q ∧ PtOk q.length x.2
  perm : (s.seen ++ (s.rest.flatMap (·.2) ++ s.heap.flatMap fun x => x.2.all)).Perm P
  few : (s.seen.length : Int) ≤ b
  cut : s.rest ≠ [] → (s.seen.length : Int) = b
  left : ∀ x ∈ s.rest, PtOk q.length x.1 ∧ x.2 ≠ [] ∧ ∀ y ∈ x.2, y ∈ x.1.all

theorem foldl_add {q : List Int} : ∀ (ps : List Pt) (l : List Op1), Hp blt l.length l → Hp blt (ps.foldl (addW q) l).length (ps.foldl (addW q) l) ∧ (ps.foldl (addW q) l).Perm (l ++ ps.map fun p => (nearR (p.rgn []) q, p)) := by
  intro ps
  induction ps with
  | nil => intro l h; exact ⟨h, by simp⟩
  | cons p ps ih =>
    intro l h
    obtain ⟨h1, h2⟩ := pushF_ok bltOk (y := ((nearR (p.rgn []) q, p) : Op1)) h
    obtain ⟨h3, h4⟩ := ih _ h2
    refine ⟨h3, h4.trans ?_⟩
    rw [List.map_cons]
    refine (h1.append_right _).trans ?_
    rw [List.append_assoc]
    exact .refl _

theorem allL_flat (ps : List Pt) : Pt.allL ps = ps.flatMap fun p => p.all := by
  induction ps with
  | nil => rfl
  | cons p ps ih => rw [List.flatMap_cons, ← ih]; rfl

theorem startW_ok {q : List Int} {b : Int} {ps : List Pt} (hb : 0 ≤ b) (h : ∀ p ∈ ps, PtOk q.length p) : WOk q b (Pt.allL ps) (startW q ps) := by
  have h0 : Hp blt ([] : List Op1).length [] := fun i _ hi => by simp at hi
  obtain ⟨h1, h2⟩ := foldl_add (q := q) ps [] h0
  rw [List.nil_append] at h2
  refine ⟨h1, fun x hx => ?_, ?_, by show ((0 : Nat) : Int) ≤ b; omega, fun e => absurd rfl e, fun x hx => by cases hx⟩
  · obtain ⟨p, hp, rfl⟩ := List.mem_map.1 (h2.mem_iff.1 hx)
    exact ⟨rfl, h p hp⟩
  · show ([] ++ ([] ++ _)).Perm _
    rw [List.nil_append, List.nil_append, allL_flat]
    refine (h2.flatMap_right _).trans (List.Perm.of_eq ?_)
    rw [List.flatMap_map]

theorem getD_mem {α : Type} [Inhabited α] {l : List α} (h : l ≠ []) : l.getD 0 default ∈ l := by
  cases l with
  | nil => exact absurd rfl h
  | cons x l => exact List.mem_cons_self ..

theorem stepW_ok {q : List Int} {k b : Int} {P : List Prw} {s : WS} (h : WOk q b P s) (hg : goW q k b s) : WOk q b P (stepW q b s) := by
  obtain ⟨hne, hlt, _⟩ := hg
  have hl : 0 < s.heap.length := List.length_pos_iff.2 hne
  obtain ⟨p1, p2, p3, _⟩ := popF_ok bltOk h.hp hl
  have hr0 : s.rest = [] := by
    by_cases e : s.rest = []
    · exact e
    · have := h.cut e; omega
  obtain ⟨hx1, hx2⟩ := h.near _ (getD_mem hne)
  unfold stepW
  generalize hx : s.heap.getD 0 default = x at *
  obtain ⟨f1, f2⟩ := foldl_add (q := q) x.2.kids _ p2
  refine ⟨f1, fun y hy => ?_, ?_, ?_, fun e => ?_, fun y hy => ?_⟩
  · rcases List.mem_append.1 (f2.mem_iff.1 hy) with h1 | h1
    · exact h.near y (p1.mem_iff.1 (List.mem_cons_of_mem _ h1))
    · obtain ⟨p, hp, rfl⟩ := List.mem_map.1 h1
      exact ⟨rfl, hx2.kids p hp⟩
  · have hperm := h.perm
    rw [hr0, List.flatMap_nil, List.nil_append] at hperm
    refine List.Perm.trans ?_ hperm
    show ((s.seen ++ x.2.rows.take (b - s.seen.length).toNat) ++ (List.flatMap (fun y : Pt × List Prw => y.2) (if (x.2.rows.length : Int) ≤ b - s.seen.length then s.rest else s.rest ++ [(x.2, x.2.rows.drop (b - s.seen.length).toNat)]) ++ List.flatMap (fun x => x.2.all) (x.2.kids.foldl (addW q) (popF blt s.heap)))).Perm _
    rw [List.append_assoc]
    refine List.Perm.append_left _ ?_
    have hheap : (List.flatMap (fun x => x.2.all) (x.2.kids.foldl (addW q) (popF blt s.heap))).Perm ((popF blt s.heap).flatMap (fun x => x.2.all) ++ Pt.allL x.2.kids) := by
      refine (f2.flatMap_right _).trans ?_
      rw [List.flatMap_append, List.flatMap_map, allL_flat]
    have hold : (s.heap.flatMap fun x => x.2.all).Perm (x.2.all ++ (popF blt s.heap).flatMap fun x => x.2.all) := by
      refine (p1.symm.flatMap_right _).trans ?_
      rw [List.flatMap_cons]
    refine List.Perm.trans ?_ hold.symm
    rw [Pt.all_eq]
    have key : (x.2.rows.take (b - s.seen.length).toNat ++ List.flatMap (·.2) (if (x.2.rows.length : Int) ≤ b - s.seen.length then s.rest else s.rest ++ [(x.2, x.2.rows.drop (b - s.seen.length).toNat)])) = x.2.rows := by
      rw [hr0]
      split
      · rw [List.flatMap_nil, List.append_nil, List.take_of_length_le (by omega)]
      · simp
    rw [← List.append_assoc, key]
    refine (List.Perm.append_left _ hheap).trans ?_
    rw [List.append_assoc]
    exact List.Perm.append_left _ List.perm_append_comm
  · show (((s.seen ++ x.2.rows.take _).length : Nat) : Int) ≤ b
    rw [List.length_append, List.length_take]
    omega
  · show (((s.seen ++ x.2.rows.take _).length : Nat) : Int) = b
    rw [List.length_append, List.length_take]
    by_cases hc : (x.2.rows.length : Int) ≤ b - s.seen.length
    · exact absurd (by show (if _ then s.rest else _) = []; rw [if_pos hc]; exact hr0) e
    · omega
  · change y ∈ (if (x.2.rows.length : Int) ≤ b - s.seen.length then s.rest else s.rest ++ [(x.2, x.2.rows.drop (b - s.seen.length).toNat)]) at hy
    rw [hr0] at hy
    split at hy
    · cases hy
    · rename_i hc
      rw [List.nil_append] at hy
      have := List.mem_singleton.1 hy
      subst this
      refine ⟨hx2, fun e => ?_, fun z hz => ?_⟩
      · have := congrArg List.length e
        rw [List.length_drop, List.length_nil] at this
        omega
      · rw [Pt.all_eq]
        exact List.mem_append_left _ (List.mem_of_mem_drop hz)

theorem sizeL_app (a b : List Pt) : Pt.sizeL (a ++ b) = Pt.sizeL a + Pt.sizeL b := by
  induction a with
  | nil => simp [Pt.sizeL]
  | cons p a ih => simp only [List.cons_append, Pt.sizeL, ih]; omega

theorem sizeL_perm {a b : List Pt} (h : a.Perm b) : Pt.sizeL a = Pt.sizeL b := by
  induction h with
  | nil => rfl
  | cons x _ ih => simp only [Pt.sizeL, ih]
  | swap x y l => simp only [Pt.sizeL]; omega
  | trans _ _ h1 h2 => exact h1.trans h2

theorem step_size {q : List Int} {k b : Int} {P : List Prw} {s : WS} (h : WOk q b P s) (hg : goW q k b s) : Pt.sizeL ((stepW q b s).heap.map (·.2)) + 1 = Pt.sizeL (s.heap.map (·.2)) := by
  have hl : 0 < s.heap.length := List.length_pos_iff.2 hg.1
  obtain ⟨p1, p2, p3, _⟩ := popF_ok bltOk h.hp hl
  obtain ⟨f1, f2⟩ := foldl_add (q := q) (s.heap.getD 0 default).2.kids _ p2
  have e1 : Pt.sizeL ((stepW q b s).heap.map (·.2)) = Pt.sizeL ((popF blt s.heap).map (·.2)) + Pt.sizeL (s.heap.getD 0 default).2.kids := by
    show Pt.sizeL (List.map (fun x => x.2) (List.foldl (addW q) (popF blt s.heap) (s.heap.getD 0 default).2.kids)) = _
    rw [sizeL_perm (f2.map _), List.map_append, sizeL_app, List.map_map]
    congr 2
    exact List.map_id' _
  have e2 : Pt.sizeL (s.heap.map (·.2)) = (s.heap.getD 0 default).2.size + Pt.sizeL ((popF blt s.heap).map (·.2)) := by
    rw [← sizeL_perm (p1.map _), List.map_cons]
    rfl
  rw [e1, e2, Pt.size_eq]
  omega

/-- The walk has ended where it does not go on. -/
theorem loopW_end {q : List Int} {k b : Int} {P : List Prw} : ∀ (f : Nat) (s : WS), WOk q b P s → Pt.sizeL (s.heap.map (·.2)) ≤ f → WOk q b P (loopW q k b f s) ∧ ¬ goW q k b (loopW q k b f s) := by
  intro f
  induction f with
  | zero =>
    intro s h hs
    refine ⟨h, fun hg => ?_⟩
    have hne := hg.1
    cases e : s.heap with
    | nil => exact hne e
    | cons x l =>
      rw [e] at hs
      simp only [List.map_cons, Pt.sizeL] at hs
      have := Pt.size_eq x.2
      omega
  | succ f ih =>
    intro s h hs
    unfold loopW
    split
    · rename_i hg
      have := step_size h hg
      exact ih _ (stepW_ok h hg) (by omega)
    · rename_i hg
      exact ⟨h, hg⟩

theorem walkE_ok {q : List Int} {k b : Int} {ps : List Pt} (hb : 0 ≤ b) (h : ∀ p ∈ ps, PtOk q.length p) : WOk q b (Pt.allL ps) (walkE q k b ps) ∧ ¬ goW q k b (walkE q k b ps) := by
  refine loopW_end _ _ (startW_ok hb h) ?_
  have h0 : Hp blt ([] : List Op1).length [] := fun i _ hi => by simp at hi
  obtain ⟨h1, h2⟩ := foldl_add (q := q) ps [] h0
  rw [List.nil_append] at h2
  show Pt.sizeL ((ps.foldl (addW q) []).map (·.2)) ≤ _
  rw [sizeL_perm (h2.map _), List.map_map]
  exact Nat.le_of_eq (congrArg _ (List.map_id' _))

end Go.Proofs.YtljbcihbgeiacaaGreat

/- VcQue -/
namespace Go.Proofs.YtljbcihbgeiacaaGreat

theorem qLen : methB Tryz.prog 152 "Len" 101 false = true := by kernel_rfl
theorem qLess : methB Tryz.prog 152 "Less" 231 false = true := by kernel_rfl
theorem qSwap : methB Tryz.prog 152 "Swap" 232 false = true := by kernel_rfl
theorem qPush : methB Tryz.prog 152 "Push" 234 true = true := by kernel_rfl
theorem qPop : methB Tryz.prog 152 "Pop" 233 true = true := by kernel_rfl
theorem shQue : shOf Tryz.prog 149 = some (.one .slice) := by kernel_rfl
theorem undQue : Tryz.prog.underlying 152 = some (.pointer 149) := by kernel_rfl
theorem tQue : elemT Tryz.prog 149 = some (154, 3, 24, [.pointer none, .int .u64 0, .int .u64 0]) := by kernel_rfl
theorem build_que (x : Option Addr) (y z : Int) : buildOf Tryz.prog 149 1 #[(0, .agg #[.pointer x, .int .u64 y, .int .u64 z])] = some (154, [.pointer x, .int .u64 y, .int .u64 z]) := by kernel_rfl
theorem qbLen : hasBody Tryz.prog 101 = true := by kernel_rfl
theorem qbLess : hasBody Tryz.prog 231 = true := by kernel_rfl
theorem qbSwap : hasBody Tryz.prog 232 = true := by kernel_rfl
theorem qbPush : hasBody Tryz.prog 234 = true := by kernel_rfl
theorem qbPop : hasBody Tryz.prog 233 = true := by kernel_rfl

/-- A part that was not looked at, with its address. -/
abbrev QE := Addr × Op1
instance : Inhabited QE := ⟨(⟨0, 0, none⟩, default)⟩
def qlt (a b : QE) : Bool := blt a.2 b.2
def encQ (e : QE) : List Value := [.pointer (some e.1), .int .u64 (hiW e.2.1), .int .u64 (loW e.2.1)]
theorem encQ_len (e : QE) : (encQ e).length = 3 := rfl
theorem encQ_one (e : QE) : ∀ v ∈ encQ e, v.oneCell' = true := by simp [encQ, Value.oneCell']

def Qs (u : H) (s : Sl) (l : List QE) : Prop := Seg u s 3 (l.flatMap encQ)
theorem Qs.len {u : H} {s : Sl} {l : List QE} (h : Qs u s l) : s.n = l.length := flat_n encQ_len (by decide) h
theorem OwnF.qs {u0 u : H} {e : Nat} {s : Sl} {l : List QE} (h : OwnF u0 u e 3 s (l.flatMap encQ)) : Qs u s l := h.own.seg
theorem Qs.at {u : H} {s : Sl} {l : List QE} (h : Qs u s l) {x : Int} (h0 : 0 ≤ x) (h1 : x < (s.n : Int)) : ∃ p, s.a = some p ∧ ∃ q : QE, l[x.toNat]? = some q ∧
    u.cell? (p.add (x.toNat * 3)) = some (.pointer (some q.1)) ∧ u.cell? ((p.add (x.toNat * 3)).add 1) = some (.int .u64 (hiW q.2.1)) ∧ u.cell? ((p.add (x.toNat * 3)).add 2) = some (.int .u64 (loW q.2.1)) := by
  have hn := h.len
  have hl : x.toNat < l.length := by omega
  obtain ⟨p, hp, hc⟩ := Seg.elem encQ_len (by decide) h (List.getElem?_eq_getElem hl)
  exact ⟨p, hp, _, List.getElem?_eq_getElem hl, hc 0 _ rfl, hc 1 _ rfl, hc 2 _ rfl⟩

theorem flat_pushQ (l : List QE) (x : QE) : l.flatMap encQ ++ [.pointer (some x.1), .int .u64 (hiW x.2.1), .int .u64 (loW x.2.1)] = (l ++ [x]).flatMap encQ := by simp [encQ]

/-- A queue in block n. -/
structure QueSt (u0 : H) (n : Nat) (u : H) (l : List QE) : Prop where
  ex : ∃ s : Sl, u n = some (.cells #[.slice s.a s.n s.c] 149 (0, 0)) ∧ OwnF u0 u 154 3 s (l.flatMap encQ) ∧ s.blk ≠ some n
  out : u0 n = none
  small : l.length ≤ 10000000

def queV (n : Nat) : Value := .iface 152 (.pointer (some (Addr.mk n 0 none)))

theorem que_val {u : H} {n : Nat} {s : Sl} {name : String} {f : FuncId} (hm : methB Tryz.prog 152 name f false = true) (hn : u n = some (.cells #[.slice s.a s.n s.c] 149 (0, 0))) (w : World) (hw : Sub u w) :
    (method (Tryz.prog.types.size + Made.depth) 152 (.pointer (some (Addr.mk n 0 none))) name).run Tryz.prog w = .ok (f, .slice s.a s.n s.c) w := by
  obtain ⟨i, m, h1, h2, h3, h4⟩ := methB_spec hm
  obtain ⟨k', hk'⟩ := fuelOk
  rw [hk']
  refine run_method_val h1 h2 h3 h4 undQue ?_
  have hc : u.cell? (Addr.mk n 0 none) = some (.slice s.a s.n s.c) := H.cell?_of hn 0
  have hcw := hw.cell hc
  exact loadVar_run shQue (Addr.mk n 0 none) (vs := [.slice s.a s.n s.c]) rfl (run_loadCellsFrom_list _ _ _ _ _ rfl (fun j v hj => by
    cases j with
    | zero => simp at hj; subst hj; exact hcw
    | succ j => simp at hj)) (fun c hc => ⟨_, rfl, hcw⟩)

theorem spec.flat_queue__Less {s : Sl} {l : List QE} {i j : Int} {u : H} {K : Bool → H → Prop} (hs : Qs u s l) (i0 : 0 ≤ i) (i1 : i < l.length) (j0 : 0 ≤ j) (j1 : j < l.length)
    (h : K (qlt (l.getD i.toNat default) (l.getD j.toNat default)) u) : C.flat_queue__Less s i j u K := by
  have hn := hs.len
  apply vc.flat_queue__Less
  obtain ⟨p, hp, x, hx, c0, c1, c2⟩ := hs.at j0 (show j < (s.n : Int) by omega)
  obtain ⟨q, hq, y, hy, d0, d1, d2⟩ := hs.at i0 (show i < (s.n : Int) by omega)
  rw [show l.getD i.toNat default = y by rw [List.getD_eq_getElem?_getD, hy]; rfl, show l.getD j.toNat default = x by rw [List.getD_eq_getElem?_getD, hx]; rfl] at h
  refine ⟨q, hq, ⟨i0, by omega⟩, p, hp, ⟨j0, by omega⟩, _, d1, _, by rw [Addr.add_add']; exact d2, _, c1, _, by rw [Addr.add_add']; exact c2, spec.wide_Cmp (loU _) (loU _) ?_⟩
  rw [wv_hl, wv_hl]
  have key : ∀ z : Int, (z < 0 ↔ y.2.1 < x.2.1) → K (decide (z < 0)) u := fun z hz => by
    have : decide (z < 0) = qlt y x := by unfold qlt blt; simp [hz]
    rw [this]; exact h
  refine key _ ?_
  split
  · omega
  · split <;> omega

theorem spec.flat_queue__Swap {u0 u : H} {s : Sl} {l : List QE} {i j : Int} {K : H → Prop} (ho : OwnF u0 u 154 3 s (l.flatMap encQ)) (i0 : 0 ≤ i) (i1 : i < l.length) (j0 : 0 ≤ j) (j1 : j < l.length)
    (h : ∀ u', OwnF u0 u' 154 3 s ((swapL l i.toNat j.toNat).flatMap encQ) → Else u u' s → K u') : C.flat_queue__Swap s i j u K := by
  have hs := ho.qs
  have hn := hs.len
  apply vc.flat_queue__Swap
  obtain ⟨p, hp, x, hx, c0, c1, c2⟩ := hs.at j0 (show j < (s.n : Int) by omega)
  obtain ⟨q, hq, y, hy, d0, d1, d2⟩ := hs.at i0 (show i < (s.n : Int) by omega)
  refine ⟨p, hp, ⟨j0, by omega⟩, q, hq, ⟨i0, by omega⟩, _, c0, _, c1, _, c2, _, d0, _, d1, _, d2, q, hq, ⟨i0, by omega⟩, ?_⟩
  refine OwnF.store (enc := encQ) encQ_len ho (by decide) (i := i.toNat) (by omega) (y := x) (encQ_one x) hq fun u1 ho1 he1 _ => ⟨p, hp, ⟨j0, by omega⟩, ?_⟩
  refine OwnF.store (enc := encQ) encQ_len ho1 (by decide) (i := j.toNat) (by simp; omega) (y := y) (encQ_one y) hp fun u2 ho2 he2 _ => h u2 ?_ (fun b o hb hne => he2 b o (he1 b o hb hne) hne)
  have hil : i.toNat < l.length := by omega
  have hjl : j.toNat < l.length := by omega
  have ex : l[j.toNat] = x := by rw [List.getElem?_eq_getElem hjl] at hx; exact Option.some.inj hx
  have ey : l[i.toNat] = y := by rw [List.getElem?_eq_getElem hil] at hy; exact Option.some.inj hy
  rw [swapL_eq hil hjl, ex, ey]
  exact ho2

theorem QueSt.set {u0 u u' : H} {n : Nat} {l l' : List QE} {s : Sl} (h : QueSt u0 n u l) (hn : u n = some (.cells #[.slice s.a s.n s.c] 149 (0, 0))) (hs : s.blk ≠ some n)
    (ho : OwnF u0 u' 154 3 s (l'.flatMap encQ)) (he : Else u u' s) (hl : l'.length = l.length) : QueSt u0 n u' l' :=
  ⟨⟨s, he _ _ hn hs, ho, hs⟩, h.out, by rw [hl]; exact h.small⟩

theorem queHeap (u0 : H) (n : Nat) : HeapI (queV n) (QueSt u0 n) qlt where
  len := by
    intro u l K h hK
    obtain ⟨s, hn, ho, _⟩ := h.ex
    refine ⟨_, _, _, _, rfl, fun w hw => que_val qLen hn w hw, bodyOf qbLen, vc.flat_queue__Len s u K ?_⟩
    rw [ho.qs.len]; exact hK
  less := by
    intro u l i j K h i0 i1 j0 j1 hK
    obtain ⟨s, hn, ho, _⟩ := h.ex
    exact ⟨_, _, _, _, rfl, fun w hw => que_val qLess hn w hw, bodyOf qbLess, spec.flat_queue__Less ho.qs i0 i1 j0 j1 hK⟩
  swap := by
    intro u l i j K h i0 i1 j0 j1 hK
    obtain ⟨s, hn, ho, hne⟩ := h.ex
    exact ⟨_, _, _, _, rfl, fun w hw => que_val qSwap hn w hw, bodyOf qbSwap, spec.flat_queue__Swap ho i0 i1 j0 j1 fun u' ho' he => hK u' (h.set hn hne ho' he (swapL_len _ _ _))⟩
  small := fun h => by have := h.small; omega

theorem queLt : LtOk qlt where
  asymm := fun _ _ h => bltOk.asymm _ _ h
  trans := fun _ _ _ h k => bltOk.trans _ _ _ h k

theorem assertQ' (h : QE) (w : World) : (Instr.typeAssert (.iface 154 (.agg #[.pointer (some h.1), .int .u64 (hiW h.2.1), .int .u64 (loW h.2.1)])) 20 154 false).run Tryz.prog w =
    .ok (.agg #[.pointer (some h.1), .int .u64 (hiW h.2.1), .int .u64 (loW h.2.1)]) w := by kernel_rfl

/-- A hit as an interface's value. -/
def queI (h : QE) : Value := .iface 154 (.agg #[.pointer (some h.1), .int .u64 (hiW h.2.1), .int .u64 (loW h.2.1)])

theorem sem_assertQ {h : QE} {u : H} {K : Option Addr → Int → Int → H → Prop} (hK : K (some h.1) (hiW h.2.1) (loW h.2.1) u) : SemT Tryz.prog (Instr.typeAssert (queI h) 20 154 false) [.agg [.ptr, .int .u64, .int .u64]] u K :=
  SemT.pure [.pointer (some h.1), .int .u64 (hiW h.2.1), .int .u64 (loW h.2.1)] (fun w _ => assertQ' h w) (.cons (t := .ptr) (some h.1) (.cons (t := .int .u64) _ (.cons (t := .int .u64) _ .nil))) hK

theorem que_push {u0 u : H} {n : Nat} {l : List QE} {x : QE} {K : H → Prop} (h : QueSt u0 n u l) (hl : l.length < 10000000) (hK : ∀ u', QueSt u0 n u' (l ++ [x]) → K u') :
    ClI Tryz.prog (queV n) "Push" #[queI x] [] u K := by
  obtain ⟨s, hn, ho, hne⟩ := h.ex
  obtain ⟨i, m, h1, h2, h3, h4⟩ := methB_spec qPush
  obtain ⟨k', hk'⟩ := fuelOk
  refine ⟨_, _, _, _, rfl, fun w _ => by rw [hk']; exact run_method_ptr h1 h2 h3 h4 undQue, bodyOf qbPush, ?_⟩
  refine vc.flat_queue__Push (some (Addr.mk n 0 none)) _ u K ?_
  refine ⟨_, rfl, s, H.cell?_of hn 0, sem_assertQ ⟨H.le.refl u, ?_⟩⟩
  have hp := sem_push (P := Tryz.prog) (K := fun s8 u9 => ∃ r10 : Addr, some (Addr.mk n 0 none) = some r10 ∧ H.St u9 r10 [.slice s8.a s8.n s8.c] K) tQue (build_que (some x.1) (hiW x.2.1) (loW x.2.1)) (by decide) rfl (by simp [Value.oneCell']) ho (by have := ho.qs.len; omega) (by have := ho.qs.len; omega) fun s' u' ho' hn' he hblk _ => ⟨_, rfl, ?_⟩
  · exact hp
  · have hn2 := he _ _ hn hne
    have hne' : s'.blk ≠ some n := fun e => by
      rcases hblk n e with h | h
      · exact hne h
      · rw [hn] at h; cases h
    refine ⟨_, _, hn2, rfl, by simp, by simp [Value.oneCell'], hK _ ⟨⟨s', H.ins_same _ _ _, ⟨?_, ?_, ho'.fresh⟩, hne'⟩, h.out, by simp; omega⟩⟩
    · rw [flat_pushQ] at ho'
      exact ho'.own.le fun b o hb hub => by rw [H.ins_other _ _ (fun e => hne' (by rw [hb, e]))]; exact hub
    · intro b o hb
      rw [H.ins_other _ _ (fun e => by rw [e, h.out] at hb; cases hb)]
      exact ho'.le b o hb

theorem que_pop {u0 u : H} {n : Nat} {l : List QE} {K : Value → H → Prop} (h : QueSt u0 n u l) (hl : 0 < l.length) (hK : ∀ u', QueSt u0 n u' l.dropLast → K (queI (l.getD (l.length - 1) default)) u') :
    ClI Tryz.prog (queV n) "Pop" #[] [.one .val] u K := by
  obtain ⟨s, hn, ho, hne⟩ := h.ex
  obtain ⟨i, m, h1, h2, h3, h4⟩ := methB_spec qPop
  obtain ⟨k', hk'⟩ := fuelOk
  refine ⟨_, _, _, _, rfl, fun w _ => by rw [hk']; exact run_method_ptr h1 h2 h3 h4 undQue, bodyOf qbPop, ?_⟩
  refine vc.flat_queue__Pop (some (Addr.mk n 0 none)) u K ?_
  have hsn := ho.qs.len
  have hc : u.cell? (Addr.mk n 0 none) = some (.slice s.a s.n s.c) := H.cell?_of hn 0
  have hsm := h.small
  obtain ⟨p, hp, x, hx, c0, c1, c2⟩ := ho.qs.at (x := (s.n : Int) - 1) (by omega) (by omega)
  have hxl : l.getD (l.length - 1) default = x := by
    rw [show ((s.n : Int) - 1).toNat = l.length - 1 by omega] at hx
    rw [List.getD_eq_getElem?_getD, hx]; rfl
  intro K0 hK0
  refine ⟨_, rfl, _, rfl, s, hc, s, hc, ⟨by omega, by omega⟩, p, hp, ⟨by omega, by omega⟩, _, c0, _, c1, _, c2, fun m hm => ⟨H.le_ins _ hm, ?_⟩⟩
  have hmn : m ≠ n := fun e => by rw [e, hn] at hm; cases hm
  refine ⟨_, _, H.ins_same _ _ _, rfl, by simp, by simp [Value.oneCell'], hK0 _ _ ⟨_, rfl, _, rfl, s, ?_, s, ?_, ⟨by omega, by omega⟩, ?_⟩⟩
  · simp only [H.cell?, H.ins_other _ _ (Ne.symm hmn)]; simpa [H.cell?] using hc
  · simp only [H.cell?, H.ins_other _ _ (Ne.symm hmn)]; simpa [H.cell?] using hc
  have hcap : s.n ≤ s.c := (Seg.cap ho.own.seg)
  obtain ⟨hf, hfb, hfn⟩ := ho.front (m := s.n - 1) (by omega)
  refine sem_slice (P := Tryz.prog) tQue (l := 0) (h := s.n - 1) (m := s.c) (.inl ⟨rfl, rfl⟩) (.inr ?_) (.inl ⟨rfl, rfl⟩) (by omega) (by omega) (Nat.le_refl _) hcap ⟨_, rfl, ?_⟩
  · rw [show ((s.n : Int) - 1) = ((s.n - 1 : Nat) : Int) by omega]
  refine ⟨_, _, by simp only []; rw [H.ins_other _ _ (Ne.symm hmn), H.ins_other _ _ (Ne.symm hmn)]; exact hn, rfl, by simp, by simp [Value.oneCell'], ?_⟩
  have hcm : ∀ (j : Nat) v, ([.pointer (some x.1), .int .u64 (hiW x.2.1), .int .u64 (loW x.2.1)] : List Value)[j]? = some v → H.cell? ((((u.ins m (.cells #[.pointer none, .int .u64 0, .int .u64 0] 154 (0, 0))).ins m (.cells (wr #[.pointer none, .int .u64 0, .int .u64 0] 0 [.pointer (some x.1), .int .u64 (hiW x.2.1), .int .u64 (loW x.2.1)]) 154 (0, 0))).ins n
      (.cells (wr #[.slice s.a s.n s.c] 0 [.slice (s.part 0 (s.n - 1) s.c 3).a (s.part 0 (s.n - 1) s.c 3).n (s.part 0 (s.n - 1) s.c 3).c]) 149 (0, 0)))) ((Addr.mk m 0 none).add j) = some v := by
    intro j v hj
    simp only [H.cell?, Addr.add_lit, Nat.zero_add, H.ins_other _ _ hmn, H.ins_same]
    rcases j with _ | _ | _ | j
    · simpa [wr] using hj
    · simpa [wr] using hj
    · simpa [wr] using hj
    · simp at hj
  have d0 := hcm 0 _ rfl
  have d1 := hcm 1 _ rfl
  have d2 := hcm 2 _ rfl
  rw [Addr.add_zero'] at d0
  refine ⟨_, d0, _, d1, _, d2, ?_⟩
  have e : queI x = queI (l.getD (l.length - 1) default) := by rw [hxl]
  show K (queI x) _
  rw [e]
  have hxs : (l.flatMap encQ).take ((s.n - 1) * 3) = l.dropLast.flatMap encQ := by
    rw [flat_take encQ_len, hsn, List.dropLast_eq_take]
  rw [hxs] at hf
  have hbn : (s.part 0 (s.n - 1) s.c 3).blk ≠ some n := by rw [hfb]; exact hne
  refine hK _ ⟨⟨_, H.ins_same _ _ _, ⟨?_, ?_, hf.fresh⟩, hbn⟩, h.out, by simp; omega⟩
  · refine hf.own.le fun b o hb hub => ?_
    rw [H.ins_other _ _ (fun e => hbn (by rw [hb, e])), H.ins_other _ _ (fun e => by rw [e, hm] at hub; cases hub), H.ins_other _ _ (fun e => by rw [e, hm] at hub; cases hub)]
    exact hub
  · intro b o hb
    have hbu := hf.le b o hb
    rw [H.ins_other _ _ (fun e => by rw [e, h.out] at hb; cases hb), H.ins_other _ _ (fun e => by rw [e, hm] at hbu; cases hbu), H.ins_other _ _ (fun e => by rw [e, hm] at hbu; cases hbu)]
    exact hbu

end Go.Proofs.YtljbcihbgeiacaaGreat

/- VcVec -/
namespace Go.Proofs.YtljbcihbgeiacaaGreat

def p2 (k : Nat) : Int := ((2 ^ k : Nat) : Int)
theorem p2_pos (k : Nat) : 1 ≤ p2 k := Int.natCast_pos.2 (Nat.pow_pos (by decide))
theorem p2_succ (k : Nat) : p2 (k + 1) = 2 * p2 k := by
  show ((2 ^ (k + 1) : Nat) : Int) = 2 * ((2 ^ k : Nat) : Int)
  rw [Nat.pow_succ, Int.natCast_mul]
  exact Int.mul_comm _ _
theorem p2_le {k : Nat} (h : k ≤ 63) : p2 k ≤ 9223372036854775808 := by
  have h1 : (2 ^ k : Nat) ≤ 2 ^ 63 := Nat.pow_le_pow_right (by decide) h
  have h2 : p2 k ≤ ((2 ^ 63 : Nat) : Int) := Int.ofNat_le.2 h1
  have h3 : ((2 ^ 63 : Nat) : Int) = 9223372036854775808 := by decide
  omega

theorem spec.wide_Sqrt {a b : Int} {u : H} {K : Int → H → Prop} (ha : U64 a) (hb : U64 b) (h : K (rt (wv a b)) u) : C.wide_Sqrt a b u K := by
  apply vc.wide_Sqrt
  have hw0 : 0 ≤ wv a b := by unfold wv; obtain ⟨_, _⟩ := ha; obtain ⟨_, _⟩ := hb; omega
  have hw1 : wv a b < 340282366920938463463374607431768211456 := by unfold wv; obtain ⟨_, _⟩ := ha; obtain ⟨_, _⟩ := hb; omega
  refine ⟨fun r x v => v = u ∧ ∃ (k : Nat) (c : Int), k ≤ 63 ∧ x = p2 k ∧ 0 ≤ c ∧ r = c * p2 (k + 1) ∧ r + p2 (k + 1) ≤ 18446744073709551616 ∧ r * r ≤ wv a b ∧ wv a b < (r + p2 (k + 1)) * (r + p2 (k + 1)), fun _ x _ => x.toNat,
    ⟨rfl, 63, 0, by omega, by decide, by omega, by simp, by decide, by simpa using hw0, ?_⟩, ?_⟩
  · have e : p2 (63 + 1) = 18446744073709551616 := by decide
    rw [e]
    omega
  rintro r x v ⟨rfl, k, c, hk, rfl, hc, hr, hr64, h1, h2⟩
  have hp := p2_pos k
  have hp' := p2_succ k
  have hpl := p2_le hk
  have hr0 : 0 ≤ r := by rw [hr]; exact Int.mul_nonneg hc (by omega)
  have hor : bits .or .u64 r (p2 k) = r + p2 k := by
    have e2 : (2 : Int) ^ (k + 1) = p2 (k + 1) := by simp [p2]
    have e64 : (2 : Int) ^ 64 = 18446744073709551616 := by decide
    refine bits_join .u64 64 (by decide) (fun n h0 h1 => wraps_u64 n h0 h1) (k + 1) r (p2 k) hr0 ?_ (by rw [e64]; omega) (by omega) (by rw [e2]; omega) (by rw [e64]; omega)
    rw [e2, hr]
    exact Int.mul_emod_left _ _
  rw [hor]
  have htU : U64 (r + p2 k) := ⟨by omega, by omega⟩
  refine spec.wide_Mul htU htU fun x y hx hy hxy => ⟨H.le.refl _, spec.wide_Cmp hy hb ?_⟩
  rw [hxy]
  have hfd : k ≠ 0 → Int.fdiv (p2 k) (2 ^ 1) = p2 (k - 1) := fun hk0 => by
    obtain ⟨m, rfl⟩ : ∃ m, k = m + 1 := ⟨k - 1, by omega⟩
    rw [p2_succ, Int.fdiv_eq_ediv_of_nonneg _ (by decide)]
    simp
  have hk1 : p2 k = 1 → k = 0 := fun e => by
    by_cases hk0 : k = 0
    · exact hk0
    · exfalso
      obtain ⟨m, rfl⟩ : ∃ m, k = m + 1 := ⟨k - 1, by omega⟩
      rw [p2_succ] at e
      have := p2_pos m
      omega
  have e0 : p2 0 = 1 := by decide
  have step : ∀ (r' : Int), 0 ≤ r' → r' * r' ≤ wv a b → wv a b < (r' + p2 k) * (r' + p2 k) → (∃ c', 0 ≤ c' ∧ r' = c' * p2 k) → r' + p2 k ≤ 18446744073709551616 →
      ((p2 k = 1) → K r' v) ∧ ((¬ (p2 k = 1)) → ((0 : Int) ≤ 1) ∧ ((v = v ∧ ∃ (k' : Nat) (c : Int), k' ≤ 63 ∧ Int.fdiv (p2 k) (2 ^ 1) = p2 k' ∧ 0 ≤ c ∧ r' = c * p2 (k' + 1) ∧ r' + p2 (k' + 1) ≤ 18446744073709551616 ∧ r' * r' ≤ wv a b ∧ wv a b < (r' + p2 (k' + 1)) * (r' + p2 (k' + 1))) ∧ ((Int.fdiv (p2 k) (2 ^ 1)).toNat < (p2 k).toNat))) := by
    intro r' r0 r1 r2 ⟨c', hc', hrc⟩ r3
    refine ⟨fun e => ?_, fun hne => ?_⟩
    · rw [e] at r2
      rw [rt_eq r0 r1 r2]
      exact h
    · have hk0 : k ≠ 0 := fun e => hne (by rw [e]; exact e0)
      have hkk : k - 1 + 1 = k := by omega
      have hp3 := p2_pos (k - 1)
      have hp4 := p2_succ (k - 1)
      rw [hkk] at hp4
      refine ⟨by decide, ⟨rfl, k - 1, c', by omega, hfd hk0, hc', by rw [hkk]; exact hrc, by rw [hkk]; exact r3, r1, by rw [hkk]; exact r2⟩, ?_⟩
      rw [hfd hk0]
      omega
  by_cases hle : (r + p2 k) * (r + p2 k) ≤ wv a b
  · have s := step (r + p2 k) (by omega) hle (by rw [show r + p2 k + p2 k = r + p2 (k + 1) by omega]; exact h2) ⟨2 * c + 1, by omega, by rw [hr, hp']; grind⟩ (by omega)
    refine ⟨fun _ => s, fun hx => absurd ?_ hx⟩
    split
    · omega
    · rw [if_neg (by omega)]; omega
  · have s := step r hr0 h1 (by omega) ⟨2 * c, by omega, by rw [hr, hp']; grind⟩ (by omega)
    refine ⟨fun hx => absurd hx ?_, fun _ => s⟩
    rw [if_neg (by omega), if_pos (by omega)]
    omega

theorem vcheck_reg {l : List Int} {d : Int} (hv : vok l) (hl : (l.length : Int) = d) (hd : 1 ≤ d ∧ d ≤ 64) : vcheck l d = 0 := by
  rw [← hl]
  exact ok_vcheck hv (by omega)

/-- A region that may be, without ids. -/
theorem spec.vec_CheckRegion {r : Rgn} {d : Int} {t : Sl} {u : H} {K : Int → H → Prop} (h1 : Ints u r.ls r.lo) (h2 : Ints u r.hs r.hi) (hr : RegOk r d) (ht : t.n = 0) (h : K 0 u) : C.vec_CheckRegion r.sh r.ls r.hs (hiW r.rad) (loW r.rad) t d u K := by
  refine ClT.forget (ss := [.one (.int .i64)]) ?_
  have n1 := h1.len
  have n2 := h2.len
  have hd := hr.dim
  have fin : ∀ {v : H}, u.le v → u.le v ∧ K 0 u := fun hv => ⟨hv, h⟩
  apply vc.vec_CheckRegion
  refine spec.vec_dim ?_
  rw [decide_eq_true hd]
  refine ⟨fun hx => absurd rfl hx, fun _ => ⟨fun _ _ x6 v => v = u ∧ 0 ≤ x6, fun _ _ _ _ => 0, ⟨rfl, by omega⟩, fun x4 x5 x6 v hv => ?_⟩⟩
  obtain ⟨rfl, hx6⟩ := hv
  refine ⟨fun hx => absurd hx (by omega), fun _ => ?_⟩
  intro K10 h10 K33 h33
  rcases hr.shape with ⟨e, e1, e2, e3⟩ | ⟨e, e0, v1, v2, l1, l2, hle⟩ | ⟨e, e2, v1, l1, hrad⟩
  · have z1 : r.lo.length = 0 := by rw [e1]; rfl
    have z2 : r.hi.length = 0 := by rw [e2]; rfl
    refine ⟨fun _ => ⟨⟨by omega, by omega⟩, fun _ => h33 _ _ ⟨fun _ => fin (H.le.refl _), fun hf => absurd ⟨by rw [e3]; rfl, by rw [e3]; rfl⟩ (of_decide_eq_false hf)⟩, fun hn => absurd (by rw [n1, n2, e1, e2]; rfl) hn⟩, fun hn => absurd e hn⟩
  · refine ⟨fun hx => absurd hx (by omega), fun _ => h33 _ _ ⟨fun hx => (by cases hx), fun _ => ?_⟩⟩
    intro K36 h36
    refine ⟨fun hx => absurd hx (by omega), fun _ => h36 _ _ ⟨fun hx => (by cases hx), fun _ => ⟨fun hx => absurd e hx, fun _ => ⟨fun hx => absurd ⟨by rw [e0]; rfl, by rw [e0]; rfl⟩ hx, fun _ => h10 _ _ ?_⟩⟩⟩⟩
    refine sem_build (build_two _ _) fun g hg => ?_
    generalize hu' : v.ins g _ = u'
    have hle' : v.le u' := by subst hu'; exact H.le_ins _ hg
    have c : ∀ j w, (#[Value.slice r.ls.a r.ls.n r.ls.c, Value.slice r.hs.a r.hs.n r.hs.c] : Array Value)[j]? = some w → u'.cell? ⟨g, j, none⟩ = some w := by
      intro j w hw
      subst hu'
      exact (H.cell?_of (H.ins_same _ _ _) j).trans hw
    clear hu' hg
    refine ⟨fun _ i w => w = u' ∧ 0 ≤ i ∧ i ≤ 2, fun _ i _ => (2 - i).toNat, ⟨rfl, by omega, by omega⟩, ?_⟩
    rintro _ i w ⟨rfl, i0, i1⟩
    refine ⟨fun hi => ⟨_, rfl, ⟨i0, hi⟩, ?_⟩, fun hi => ?_⟩
    · have hi : i < 2 := hi
      have hc : i = 0 ∨ i = 1 := by omega
      rcases hc with rfl | rfl
      · refine ⟨r.ls, c 0 _ rfl, spec.vec_Check (h1.mono hle') ⟨fun hne => absurd (vcheck_reg v1 l1 hd) hne, fun _ => ⟨⟨by omega, by omega⟩, ⟨rfl, by omega, by omega⟩, by dsimp only; omega⟩⟩⟩
      · refine ⟨r.hs, c 1 _ rfl, spec.vec_Check (h2.mono hle') ⟨fun hne => absurd (vcheck_reg v2 l2 hd) hne, fun _ => ⟨⟨by omega, by omega⟩, ⟨rfl, by omega, by omega⟩, by dsimp only; omega⟩⟩⟩
    · refine ⟨fun _ i w' => w' = w ∧ 0 ≤ i, fun _ i _ => ((r.ls.n : Int) - i).toNat, ⟨rfl, by omega⟩, ?_⟩
      rintro _ i w' ⟨rfl, i0⟩
      refine ⟨fun hi => ?_, fun _ => ⟨hle', h⟩⟩
      obtain ⟨p1, hp1, c1⟩ := (h1.mono hle').at i0 hi
      obtain ⟨p2, hp2, c2⟩ := (h2.mono hle').at i0 (show i < (r.hs.n : Int) by omega)
      have := hle i.toNat (by omega)
      exact ⟨p1, hp1, ⟨i0, hi⟩, _, c1, p2, hp2, ⟨i0, by omega⟩, _, c2, fun hx => by omega, fun _ => ⟨⟨by omega, by omega⟩, ⟨rfl, by omega⟩, by dsimp only; omega⟩⟩
  · refine ⟨fun hx => absurd hx (by omega), fun _ => h33 _ _ ⟨fun hx => (by cases hx), fun _ => ?_⟩⟩
    intro K36 h36
    refine ⟨fun _ => h36 _ _ ⟨fun _ => spec.vec_Check h1 ?_, fun hf => ?_⟩, fun hx => absurd e hx⟩
    · rw [vcheck_reg v1 l1 hd]
      exact fin (H.le.refl _)
    · exact absurd (by rw [n2, e2]; rfl) (of_decide_eq_false hf)

/-- A region and a vector that may be. -/
theorem spec.vec_both {r : Rgn} {t s : Sl} {q : List Int} {u : H} {K : Int → H → Prop} (h1 : Ints u r.ls r.lo) (h2 : Ints u r.hs r.hi) (hr : RegOk r q.length) (ht : t.n = 0) (hs : Ints u s q) (hq : vok q) (h : K 0 u) : C.vec_both r.sh r.ls r.hs (hiW r.rad) (loW r.rad) t s u K := by
  have hn := hs.len
  apply vc.vec_both
  rw [hn]
  refine spec.vec_CheckRegion h1 h2 hr ht ⟨fun hx => absurd rfl hx, fun _ => spec.vec_Check hs ?_⟩
  rw [vcheck_reg hq rfl hr.dim]
  exact h

/-- How near a region may be: the program's. -/
theorem spec.vec_Bound {r : Rgn} {t s : Sl} {q : List Int} {u : H} {K : Int → Int → Int → H → Prop} (h1 : Ints u r.ls r.lo) (h2 : Ints u r.hs r.hi) (hr : RegOk r q.length) (ht : t.n = 0) (hs : Ints u s q) (hq : vok q)
    (h : K (hiW (nearR r q)) (loW (nearR r q)) 0 u) : C.vec_Bound r.sh r.ls r.hs (hiW r.rad) (loW r.rad) t s u K := by
  have n1 := h1.len
  have n2 := h2.len
  have nq := hs.len
  have hd := hr.dim
  have z : U64 0 := ⟨by omega, by omega⟩
  unfold nearR at h
  apply vc.vec_Bound
  refine spec.vec_both h1 h2 hr ht hs hq ⟨fun hx => absurd rfl hx, fun _ => ?_⟩
  intro K2 hK2
  rcases hr.shape with ⟨e, _⟩ | ⟨e, _, v1, v2, l1, l2, hle⟩ | ⟨e, e2, v1, l1, hrad⟩
  · rw [if_neg (by omega), if_neg (by omega)] at h
    exact ⟨fun h => by omega, fun _ => ⟨fun h => by omega, fun _ => hK2 _ _ _ h⟩⟩
  · rw [if_pos e] at h
    refine ⟨fun _ => ?_, fun hne => absurd e hne⟩
    refine ⟨fun i x y w => w = u ∧ 0 ≤ i ∧ i ≤ s.n ∧ U64 x ∧ U64 y ∧ wv x y = boxTo r.lo r.hi q i.toNat, fun i _ _ _ => ((s.n : Int) - i).toNat, ⟨rfl, by omega, by omega, z, z, rfl⟩, ?_⟩
    rintro i x y w ⟨rfl, i0, i1, hx, hy, hw⟩
    refine ⟨fun hi => ?_, fun hi => ?_⟩
    · obtain ⟨p, hp, c0⟩ := hs.at i0 hi
      obtain ⟨p1, hp1, c1⟩ := h1.at i0 (show i < (r.ls.n : Int) by omega)
      obtain ⟨p2, hp2, c2⟩ := h2.at i0 (show i < (r.hs.n : Int) by omega)
      have k0 := hq.2 i.toNat (by omega)
      have k1 := v1.2 i.toNat (by omega)
      have k2 := v2.2 i.toNat (by omega)
      have hb := boxTo_le v1 v2 hq (by omega) (by omega) i.toNat (by omega)
      have h64 := hq.1
      have hlo := hle i.toNat (by omega)
      have eb : boxTo r.lo r.hi q (i + 1).toNat = boxTo r.lo r.hi q i.toNat + (if q.getD i.toNat 0 < r.lo.getD i.toNat 0 then sqd (r.lo.getD i.toNat 0) (q.getD i.toNat 0) else 0) + (if r.hi.getD i.toNat 0 < q.getD i.toNat 0 then sqd (q.getD i.toNat 0) (r.hi.getD i.toNat 0) else 0) := by
        rw [show (i + 1).toNat = i.toNat + 1 by omega]
        rfl
      have hbb : boxTo r.lo r.hi q i.toNat ≤ 64 * 36893488113059364872 := by
        have := Int.mul_le_mul_of_nonneg_right (show (i.toNat : Int) ≤ 64 by omega) (show (0 : Int) ≤ 36893488113059364872 by omega)
        omega
      refine ⟨p, hp, ⟨i0, hi⟩, _, c0, p1, hp1, ⟨i0, by omega⟩, _, c1, p2, hp2, ⟨i0, by omega⟩, _, c2, ?_⟩
      generalize q.getD i.toNat 0 = a at *
      generalize r.lo.getD i.toNat 0 = b at *
      generalize r.hi.getD i.toNat 0 = c at *
      have hclamp : coordOk (if c < (if b > a then b else a) then c else (if b > a then b else a)) := by
        unfold coordOk at *
        split <;> split <;> omega
      refine spec.vec_plus hx hy k0 hclamp (by omega) fun x' y' hx' hy' hw' => ⟨⟨by omega, by omega⟩, ⟨rfl, by omega, by omega, hx', hy', ?_⟩, by dsimp only; omega⟩
      rw [hw', hw, eb]
      unfold sqd
      by_cases g1 : b > a
      · rw [if_pos g1, if_pos (show a < b from g1), if_neg (show ¬ c < b by omega), if_neg (show ¬ c < a by omega)]
        have : (a - b) * (a - b) = (b - a) * (b - a) := by grind
        omega
      · rw [if_neg g1, if_neg (show ¬ a < b by omega)]
        by_cases g2 : c < a
        · rw [if_pos g2, if_pos g2]; omega
        · rw [if_neg g2, if_neg g2]
          have : (a - a) * (a - a) = 0 := by simp
          omega
    · have : i.toNat = q.length := by omega
      rw [this] at hw
      obtain ⟨g1, g2⟩ := wv_U hx hy
      rw [hw] at g1 g2
      rw [g1, g2]
      exact hK2 _ _ _ h
  · rw [if_neg (by omega), if_pos e] at h
    refine ⟨fun h => by omega, fun _ => ⟨fun _ => ?_, fun hne => absurd e hne⟩⟩
    refine spec.vec_far h1 hs v1 hq (by omega) fun x y hx hy hw => ⟨H.le.refl _, ?_⟩
    have hdk := sqTo_ok v1 hq (show r.lo.length = q.length by omega)
    refine spec.wide_Sqrt hx hy ⟨H.le.refl _, spec.wide_Sqrt (hiU hrad) (loU _) ?_⟩
    rw [wv_hl, hw]
    have s0 := rt_spec hdk.1
    have s1 := rt_lt hdk
    have t0 := rt_spec hrad.1
    have t1 := rt_lt hrad
    unfold ballTo at h
    generalize hss : rt (sqTo r.lo q r.lo.length) = S at *
    generalize htt : rt r.rad = tt at *
    intro K28 h28
    have fin : ∀ z : Int, 0 ≤ z → z < 18446744073709551616 → K (hiW (z * z)) (loW (z * z)) 0 u → C.wide_Mul z z u fun (x31 : Int) (x32 : Int) (u33 : H) => K2 x31 x32 u33 := fun z z0 z1 hz => spec.wide_Mul ⟨z0, z1⟩ ⟨z0, z1⟩ fun x y hx hy hxy => by
      obtain ⟨g1, g2⟩ := wv_U hx hy
      rw [hxy] at g1 g2
      rw [g1, g2]
      exact hK2 _ _ _ hz
    have go : ∀ T : Int, 0 ≤ T → (K (hiW (if T < S then (S - T) * (S - T) else 0)) (loW (if T < S then (S - T) * (S - T) else 0)) 0 u) → K28 T u := fun T hT hKT => by
      refine h28 _ _ ⟨fun hlt => ?_, fun hge => ?_⟩
      · rw [if_pos hlt] at hKT
        have e1 : IntKind.wrap .u64 (S - T) = S - T := IntWalk.u64_in _ (by omega)
        rw [e1]
        exact fin _ (by omega) (by omega) hKT
      · rw [if_neg hge] at hKT
        exact hK2 _ _ _ hKT
    refine ⟨fun hlt => ?_, fun hge => ⟨H.le.refl _, ?_⟩⟩
    · refine spec.wide_Mul ⟨t0.1, by omega⟩ ⟨t0.1, by omega⟩ fun x' y' hx' hy' hxy => ⟨H.le.refl _, ?_⟩
      obtain ⟨g1, g2⟩ := wv_U hx' hy'
      rw [hxy] at g1 g2
      refine ⟨fun hne => ?_, fun he => ?_⟩
      · have hne' : ¬ tt * tt = r.rad := fun ee => hne (by rw [g1, g2, ee]; exact ⟨rfl, rfl⟩)
        rw [if_neg hne'] at h
        have e1 : IntKind.wrap .u64 (tt + 1) = tt + 1 := IntWalk.u64_in _ (by omega)
        rw [e1]
        exact go _ (by omega) h
      · have he' : tt * tt = r.rad := hl_inj (by rw [← g1]; exact he.1) (by rw [← g2]; exact he.2)
        rw [if_pos he'] at h
        exact go _ t0.1 h
    · refine go _ t0.1 ?_
      rw [if_neg hge]
      rw [if_neg (by split <;> omega)] at h
      exact h

end Go.Proofs.YtljbcihbgeiacaaGreat

/- VcPart -/
namespace Go.Proofs.YtljbcihbgeiacaaGreat

theorem H.le.cell {v u : H} (h : v.le u) {a : Addr} {x : Value} (hc : v.cell? a = some x) : u.cell? a = some x := by
  unfold H.cell? at hc ⊢
  split at hc
  · rename_i c t f hx
    rw [h _ _ hx]
    exact hc
  · cases hc

section
variable {α β : Type} [Inhabited α] [Inhabited β] {lt : α → α → Bool} {lt' : β → β → Bool} {f : α → β}

theorem getD_map' (hd : f default = default) (l : List α) (i : Nat) : (l.map f).getD i default = f (l.getD i default) := by
  rw [List.getD_eq_getElem?_getD, List.getD_eq_getElem?_getD, List.getElem?_map]
  cases l[i]? with
  | none => exact hd.symm
  | some x => rfl

omit [Inhabited α] [Inhabited β] in
theorem swapL_map (l : List α) (i j : Nat) : (swapL l i j).map f = swapL (l.map f) i j := by
  unfold swapL
  rw [List.getElem?_map, List.getElem?_map]
  cases l[i]? <;> cases l[j]? <;> simp [List.map_set]

theorem upF_map (hd : f default = default) (hl : ∀ a b, lt' (f a) (f b) = lt a b) : ∀ (j : Nat) (l : List α), (upF lt l j).map f = upF lt' (l.map f) j := by
  intro j
  induction j using Nat.strongRecOn with
  | ind j ih =>
    intro l
    unfold upF
    by_cases h : j = 0
    · rw [dif_pos h, dif_pos h]
    · rw [dif_neg h, dif_neg h, getD_map' hd, getD_map' hd, hl]
      split
      · rw [ih (pa j) (by unfold pa; omega), swapL_map]
      · rfl

theorem kidF_map (hd : f default = default) (hl : ∀ a b, lt' (f a) (f b) = lt a b) (n : Nat) (l : List α) (i : Nat) : kidF lt' n (l.map f) i = kidF lt n l i := by
  unfold kidF
  rw [getD_map' hd, getD_map' hd, hl]

theorem downH_map (hd : f default = default) (hl : ∀ a b, lt' (f a) (f b) = lt a b) (n : Nat) : ∀ (m : Nat) (i : Nat) (l : List α), n - i ≤ m → (downH lt n l i).map f = downH lt' n (l.map f) i := by
  intro m
  induction m with
  | zero =>
    intro i l h
    unfold downH
    rw [dif_neg (by omega), dif_neg (by omega)]
  | succ m ih =>
    intro i l h
    unfold downH
    by_cases hc : 2 * i + 1 < n
    · rw [dif_pos hc, dif_pos hc, kidF_map hd hl, getD_map' hd, getD_map' hd, hl]
      split
      · obtain ⟨_, _, _, hk⟩ := kidF_ok (lt := lt) (l := l) hc
        rw [ih _ _ (by omega), swapL_map]
      · rfl
    · rw [dif_neg hc, dif_neg hc]

theorem pushF_map (hd : f default = default) (hl : ∀ a b, lt' (f a) (f b) = lt a b) (l : List α) (y : α) : (pushF lt l y).map f = pushF lt' (l.map f) (f y) := by
  unfold pushF
  rw [upF_map hd hl, List.map_append, List.length_map]
  rfl

theorem popF_map (hd : f default = default) (hl : ∀ a b, lt' (f a) (f b) = lt a b) (l : List α) : (popF lt l).map f = popF lt' (l.map f) := by
  unfold popF
  rw [List.map_dropLast, downH_map hd hl _ _ _ _ (Nat.le_refl _), swapL_map, List.length_map]
end

/-! ### parts in memory -/

/-- A part at an address, its parts too. -/
inductive PartAt (u : H) : Nat → Pt → Prop where
  | mk {n : Nat} {p : Pt} (ls hs is rs ks : Sl) (rows : List Rw) (ps : List Nat)
      (cell : u n = some (.cells #[.int .i64 p.sh, .slice ls.a ls.n ls.c, .slice hs.a hs.n hs.c, .int .u64 (hiW p.rad), .int .u64 (loW p.rad), .slice is.a is.n is.c, .slice rs.a rs.n rs.c, .slice ks.a ks.n ks.c] 110 (0, 0)))
      (isn : is.n = 0) (lo : Ints u ls p.lo) (hi : Ints u hs p.hi) (at' : Rws u rs rows) (pr : rows.map Rw.pr = p.rows)
      (kids : Seg u ks 1 (ps.map fun n => .pointer (some ⟨n, 0, none⟩))) (len : ps.length = p.kids.length) (each : ∀ (i : Nat) m k, ps[i]? = some m → p.kids[i]? = some k → PartAt u m k) : PartAt u n p

theorem PartAt.mono {u u' : H} {n : Nat} {p : Pt} (h : PartAt u n p) (hu : u.le u') : PartAt u' n p := by
  induction h with
  | mk ls hs is rs ks rows ps cell isn lo hi at' pr kids len each ih =>
    exact .mk ls hs is rs ks rows ps (hu _ _ cell) isn (lo.mono hu) (hi.mono hu) (at'.mono hu) pr (kids.mono hu) len ih

/-- The queue of parts: where they lie. -/
structure PQ (v u : H) (n : Nat) (l : List Op1) : Prop where
  ex : ∃ L : List QE, QueSt v n u L ∧ L.map (·.2) = l ∧ ∀ e ∈ L, ∃ m, e.1 = ⟨m, 0, none⟩ ∧ PartAt v m e.2.2

/-- Pushing a part. -/
theorem spec.push_part {v u : H} {n m : Nat} {l : List Op1} {p : Pt} {b : Int} {K : H → Prop} (h : PQ v u n l) (hl : l.length < 10000000) (hp : PartAt v m p) (hK : ∀ u', PQ v u' n (pushF blt l (b, p)) → K u') :
    C.heap_Push (queV n) (queI ((⟨m, 0, none⟩ : Addr), (b, p))) u K := by
  obtain ⟨L, hQ, hL, hall⟩ := h.ex
  have hlen : L.length = l.length := by rw [← hL, List.length_map]
  refine spec.heap_PushF (queHeap v n) (y := ((⟨m, 0, none⟩ : Addr), ((b, p) : Op1))) (fun hk => que_push hQ (by omega) hk) fun u' hs => hK u' ⟨pushF qlt L ((⟨m, 0, none⟩ : Addr), ((b, p) : Op1)), hs, ?_, fun e he => ?_⟩
  · have e := pushF_map (α := QE) (β := Op1) (lt := qlt) (lt' := blt) (f := fun e : QE => e.2) rfl (fun _ _ => rfl) L ((⟨m, 0, none⟩ : Addr), ((b, p) : Op1))
    rw [hL] at e
    exact e
  · have hperm := upF_perm (lt := qlt) L.length (L ++ [((⟨m, 0, none⟩ : Addr), ((b, p) : Op1))]) (by simp)
    rcases List.mem_append.1 (hperm.mem_iff.1 he) with h1 | h1
    · exact hall e h1
    · have := List.mem_singleton.1 h1
      subst this
      exact ⟨m, rfl, hp⟩

/-- The closure that adds a part. -/
theorem spec.flat_Walk_1 {v u : H} {n m n0 : Nat} {s : Sl} {q : List Int} {l : List Op1} {p : Pt} {K : H → Prop} (h : PQ v u n l) (hv : v.le u) (hl : l.length < 10000000) (hp : PartAt v m p) (hok : RegOk (p.rgn []) q.length) (hq : vok q)
    (hn0 : u.cell? ⟨n0, 0, none⟩ = some (.slice s.a s.n s.c)) (hs : Ints u s q) (hK : ∀ u', PQ v u' n (addW q l p) → K u') : C.flat_Walk_1 (some ⟨m, 0, none⟩) ⟨n0, 0, none⟩ ⟨n, 0, none⟩ u K := by
  cases hp with
  | mk ls hs' is rs ks rows ps cell isn lo hi at' pr kids len each =>
  have hc := hv _ _ cell
  have hreg : RegOk (⟨p.sh, ls, hs', p.rad, is, p.lo, p.hi, []⟩ : Rgn) q.length := ⟨hok.dim, hok.ids, hok.id, hok.shape⟩
  apply vc.flat_Walk_1
  have push : C.heap_Push (queV n) (queI ((⟨m, 0, none⟩ : Addr), (nearR (p.rgn []) q, p))) u K := spec.push_part h hl (.mk ls hs' is rs ks rows ps cell isn lo hi at' pr kids len each) fun u' hu' => hK u' hu'
  have hnear : nearR (⟨p.sh, ls, hs', p.rad, is, p.lo, p.hi, []⟩ : Rgn) q = nearR (p.rgn []) q := rfl
  refine ⟨_, rfl, _, H.cell?_of hc 0, ls, H.cell?_of hc 1, hs', H.cell?_of hc 2, _, H.cell?_of hc 3, _, H.cell?_of hc 4, is, H.cell?_of hc 5, s, hn0, ?_, H.le.refl u, ?_⟩
  · exact spec.vec_Bound (r := ⟨p.sh, ls, hs', p.rad, is, p.lo, p.hi, []⟩) (lo.mono hv) (hi.mono hv) hreg isn hs hq ⟨H.le.refl u, push⟩
  · exact spec.vec_Bound (r := ⟨p.sh, ls, hs', p.rad, is, p.lo, p.hi, []⟩) (lo.mono hv) (hi.mono hv) hreg isn hs hq push

end Go.Proofs.YtljbcihbgeiacaaGreat

/- VcReg -/
namespace Go.Proofs.YtljbcihbgeiacaaGreat

theorem spec.flat_region {sh hw lw : Int} {ls hs is rs : Sl} {lo hi : List Int} {rows : List Rw} {u : H} {K : Int → Sl → Sl → Int → Int → Sl → H → Prop} (h1 : Ints u ls lo) (h2 : Ints u hs hi) (hr : Rws u rs rows) (b1 : lo.length ≤ 64) (b2 : hi.length ≤ 64) (b3 : rows.length ≤ 1000000)
    (hK : ∀ a b c u', OwnF u u' 3 1 a (lo.flatMap encI) → OwnF u u' 3 1 b (hi.flatMap encI) → OwnF u u' 3 1 c ((sortI (rows.map (·.id))).flatMap encI) → Far a b → Far a c → Far b c → K sh a b hw lw c u') : C.flat_region sh ls hs hw lw is rs u K := by
  have n1 := h1.len
  have n2 := h2.len
  have n3 := hr.len
  apply vc.flat_region
  refine spec.slices_Clone___int_int_ h1 (by omega) fun s0 u1 o1 _ => ⟨o1.le, spec.slices_Clone___int_int_ (h2.mono o1.le) (by omega) fun s2 u3 o2 _ => ?_⟩
  have hr3 := hr.mono (o1.le.trans o2.le)
  refine ⟨fun i x7 s8 s9 x10 x11 s12 w => 0 ≤ i ∧ i ≤ rs.n ∧ x7 = sh ∧ s8 = s0 ∧ s9 = s2 ∧ x10 = hw ∧ x11 = lw ∧ OwnF u3 w 3 1 s12 (((rows.take i.toNat).map (·.id)).flatMap encI), fun i _ _ _ _ _ _ _ => ((rs.n : Int) - i).toNat,
    ⟨by omega, by omega, rfl, rfl, rfl, rfl, rfl, by simpa using OwnF.nil (H.le.refl u3) 3 1⟩, ?_⟩
  rintro i x7 s8 s9 x10 x11 s12 w ⟨i0, i1, e1, e2, e3, e4, e5, ho⟩
  have hn12 := ho.ints.len
  rw [List.length_map, List.length_take] at hn12
  refine ⟨fun hi => ?_, fun hi => ?_⟩
  · obtain ⟨p, hp, r, hrr, c0, c1, _⟩ := (hr3.mono ho.le).at i0 hi
    refine ⟨p, hp, ⟨i0, hi⟩, _, c0, _, c1, sem_push' tInts (build_int _) (by decide) rfl (by simp [Value.oneCell']) ho (by omega) (by omega) fun s' u' ho2 hn2 hel hbl _ => ⟨⟨by omega, by omega⟩, ⟨by omega, by omega, e1, e2, e3, e4, e5, ?_⟩, by dsimp only; omega⟩⟩
    have e : rows.take (i + 1).toNat = rows.take i.toNat ++ [r] := by
      rw [show (i + 1).toNat = i.toNat + 1 by omega, List.take_add_one, hrr]
      rfl
    rw [e, List.map_append, List.flatMap_append]
    exact ho2
  · have hall : rows.take i.toNat = rows := List.take_of_length_le (by omega)
    rw [hall] at ho
    subst e1 e2 e3 e4 e5
    refine spec.slices_Sort___int_int_ ho (by simp; omega) fun u5 ho5 he5 => ?_
    have hf : ∀ g, s12.blk = some g → u3 g = none := ho.fresh
    have f13 : Far s8 s12 := OwnF.far (o1.mono o2.le) (H.le.refl u3) ho
    have f23 : Far s9 s12 := OwnF.far o2 (H.le.refl u3) ho
    have f12 : Far s8 s9 := OwnF.far o1 (H.le.refl u1) o2
    have l5 : u3.le u5 := ho5.le
    exact hK _ _ _ u5 ((o1.mono o2.le).mono l5) ((o2.weaken o1.le).mono l5) (ho5.weaken (o1.le.trans o2.le)) f12 f13 f23

end Go.Proofs.YtljbcihbgeiacaaGreat

/- VcAll -/
namespace Go.Proofs.YtljbcihbgeiacaaGreat

theorem build_rows00 : buildOf Tryz.prog 22 0 #[] = some (43, []) := by kernel_rfl

theorem flatR_one {l : List Rw} : ∀ y ∈ l.flatMap encR, y.oneCell' = true := by
  intro y hy
  obtain ⟨h, _, hy⟩ := List.mem_flatMap.1 hy
  exact encR_one h y hy

theorem spec.slices_Clone__api_Row_ {s : Sl} {l : List Rw} {u : H} {K : Sl → H → Prop} (hs : Seg u s 2 (l.flatMap encR)) (hb : s.n ≤ 1099511627776) (hK : ∀ s' u', OwnF u u' 43 2 s' (l.flatMap encR) → s'.n = s.n → K s' u') : C.slices_Clone__api_Row_ s u K := by
  apply vc.slices_Clone__api_Row_
  refine ⟨fun hn => ?_, fun _ => sem_clone tRows build_rows00 (by decide) hs flatR_one (by omega) hK⟩
  have hl := seg_nil hs hn
  have hl2 : s.n = 0 := by have := Seg.len hs; rw [hl] at this; simp at this; omega
  refine hK _ _ ?_ hl2.symm
  rw [hl]
  exact OwnF.nil (H.le.refl u) _ _

theorem allL_take_succ {ps : List Pt} {i : Nat} {k : Pt} (h : ps[i]? = some k) : Pt.allL (ps.take (i + 1)) = Pt.allL (ps.take i) ++ k.all := by
  rw [List.take_add_one, h, allL_flat, allL_flat]
  simp

theorem allL_take_le (ps : List Pt) (i : Nat) : (Pt.allL (ps.take i)).length ≤ (Pt.allL ps).length := by
  conv => rhs; rw [← List.take_append_drop i ps]
  rw [allL_flat, allL_flat, List.flatMap_append, List.length_append]
  omega

theorem spec.flat_Part__All {v : H} {n : Nat} {p : Pt} (hp : PartAt v n p) : ∀ {u : H} {K : Sl → H → Prop}, v.le u → p.all.length ≤ 1000000 →
    (∀ (s : Sl) (L : List Rw) (u' : H), OwnF u u' 43 2 s (L.flatMap encR) → L.map Rw.pr = p.all → (∀ r ∈ L, Ints v r.s r.v) → K s u') → C.flat_Part__All (some ⟨n, 0, none⟩) u K := by
  induction hp with
  | @mk n p ls hs is rs ks rows ps cell isn lo hi at' pr kids len each ih =>
  intro u K hv hb hK
  have hc := hv _ _ cell
  have hrl : p.rows.length = rows.length := by rw [← pr, List.length_map]
  rw [Pt.all_eq] at hb hK
  rw [List.length_append] at hb
  have hrn := at'.len
  apply vc.flat_Part__All
  refine ⟨_, rfl, rs, H.cell?_of hc 6, spec.slices_Clone__api_Row_ (Seg.mono at'.1 hv) (by omega) fun s2 u3 o2 _ => ⟨_, rfl, ks, H.cell?_of (o2.le _ _ hc) 7, ?_⟩⟩
  have hkm := Nat.le_trans (Seg.cap kids) (Seg.max kids)
  have hkn : ks.n = ps.length := by have := kids.len; simpa using this.symm
  refine ⟨fun s8 x w => 0 ≤ x ∧ x ≤ ks.n ∧ ∃ L : List Rw, OwnF u w 43 2 s8 (L.flatMap encR) ∧ L.map Rw.pr = p.rows ++ Pt.allL (p.kids.take x.toNat) ∧ ∀ r ∈ L, Ints v r.s r.v, fun _ x _ => ((ks.n : Int) - x).toNat,
    ⟨by omega, by omega, rows, o2, by simpa [Pt.allL] using pr, fun r hr => at'.2 r hr⟩, ?_⟩
  rintro s8 x w ⟨x0, x1, L, ho, hL, hI⟩
  refine ⟨fun hx => ?_, fun hx => ?_⟩
  · have hxl : x.toNat < ps.length := by omega
    obtain ⟨k, hk⟩ : ∃ k, p.kids[x.toNat]? = some k := ⟨_, List.getElem?_eq_getElem (by omega)⟩
    have hm : ps[x.toNat]? = some ps[x.toNat] := List.getElem?_eq_getElem hxl
    obtain ⟨a, ha, hcell⟩ := Seg.elem (enc := fun n : Nat => [Value.pointer (some ⟨n, 0, none⟩)]) (k := 1) (fun _ => rfl) (by decide) (xs := ps) (by
      have e : ps.flatMap (fun n : Nat => [Value.pointer (some ⟨n, 0, none⟩)]) = ps.map fun n => Value.pointer (some ⟨n, 0, none⟩) := by
        generalize ps = z
        induction z with
        | nil => rfl
        | cons y z ih => rw [List.flatMap_cons, List.map_cons, ih]; rfl
      rw [e]
      exact kids.mono (hv.trans ho.le)) hm
    have hall := allL_take_succ hk
    have hle := allL_take_le p.kids (x.toNat + 1)
    rw [hall, List.length_append] at hle
    have hLl := congrArg List.length hL
    rw [List.length_map, List.length_append] at hLl
    have hn8 : s8.n = L.length := flat_n encR_len (by decide) ho.own.seg
    refine ⟨a, ha, ⟨x0, hx⟩, _, hcell 0 _ rfl, ih _ _ _ hm hk (hv.trans ho.le) (by omega) fun s13 L2 u14 ho2 hL2 hI2 => ?_⟩
    have hl2 := congrArg List.length hL2
    rw [List.length_map] at hl2
    have hn13 := flat_n encR_len (by decide) ho2.own.seg
    refine sem_appendF tRows (by decide) (ho.mono ho2.le) ho2.own.seg flatR_one (by omega) (by omega) fun s15 u16 ho3 _ => ⟨⟨by omega, by omega⟩, ⟨by omega, by omega, L ++ L2, by rw [List.flatMap_append]; exact ho3, ?_, fun r hr => ?_⟩, by dsimp only; omega⟩
    · rw [List.map_append, hL, hL2, show (x + 1).toNat = x.toNat + 1 by omega, hall, List.append_assoc]
    · rcases List.mem_append.1 hr with h | h
      · exact hI r h
      · exact hI2 r h
  · rw [List.take_of_length_le (by omega)] at hL
    exact hK _ L w ho hL hI

end Go.Proofs.YtljbcihbgeiacaaGreat

/- VcDone -/
namespace Go.Proofs.YtljbcihbgeiacaaGreat

theorem spec.topk_Heap__Len {u : H} {n : Nat} {k : Int} {s : Sl} {K : Int → H → Prop} (hn : u n = some (.cells #[.int .i64 k, .slice s.a s.n s.c] 174 (0, 0))) (hK : K s.n u) : C.topk_Heap__Len (some ⟨n, 0, none⟩) u K := by
  apply vc.topk_Heap__Len
  exact ⟨fun e => (by cases e), fun _ => ⟨_, rfl, s, H.cell?_of hn 1, hK⟩⟩

/-- The last of a sorted list is the one that none is behind. -/
theorem srt_last {l : List Hit} (hs : Srt l) {x : Hit} (hx : x ∈ l) (hm : ∀ y ∈ l, hlt x y = false) : l.getD (l.length - 1) default = x := by
  have hl : 0 < l.length := List.length_pos_iff.2 fun e => by rw [e] at hx; cases hx
  obtain ⟨i, hi, rfl⟩ := List.getElem_of_mem hx
  have hl1 : l.length - 1 < l.length := by omega
  rw [List.getD_eq_getElem?_getD, List.getElem?_eq_getElem hl1]
  show l[l.length - 1] = l[i]
  by_cases e : i = l.length - 1
  · subst e; rfl
  · have h1 := List.pairwise_iff_getElem.1 hs i (l.length - 1) hi hl1 (by omega)
    exact hlt_eq (hm _ (List.getElem_mem hl1)) h1

theorem spec.flat_Walk_2 {u0 u : H} {N n4 : Nat} {k hi lo : Int} {S : List Hit} {K : Bool → H → Prop} (h : TopAt u0 N k u S) (k1 : 1 ≤ k) (hd : ∀ g ∈ S, Dok g.2) (hn4 : u.cell? ⟨n4, 0, none⟩ = some (.pointer (some ⟨N, 0, none⟩))) (_h1 : U64 hi) (h2 : U64 lo)
    (hK : ∀ bb : Bool, (bb = true ↔ k ≤ (S.length : Int) ∧ ((topk k.toNat S).getD (k.toNat - 1) default).2 < wv hi lo) → K bb u) : C.flat_Walk_2 hi lo ⟨n4, 0, none⟩ u K := by
  obtain ⟨l, hst, hh, hp⟩ := h
  obtain ⟨s, hn, ho, hne⟩ := hst.ex
  have hsn := ho.hts.len
  have hlen := hp.length_eq
  rw [topk_len] at hlen
  apply vc.flat_Walk_2
  refine ⟨_, hn4, ?_⟩
  apply vc.topk_Heap__Worst
  have full : ∀ {x2 x3 : Int}, U64 x3 → ((s.n : Int) = k → wv x2 x3 = ((topk k.toNat S).getD (k.toNat - 1) default).2) → C.topk_Heap__Full (some ⟨N, 0, none⟩) u (fun (b7 : Bool) (u8 : H) => ((b7 = Bool.true) → C.wide_Cmp hi lo x2 x3 u8 (fun (x9 : Int) (u10 : H) => K (decide ((0 : Int) < x9)) u10)) ∧ ((b7 = Bool.false) → K Bool.false u8)) := by
    intro x2 x3 hx3 hw
    apply vc.topk_Heap__Full
    refine ⟨fun _ => ⟨_, rfl, _, rfl, s, H.cell?_of hn 1, _, H.cell?_of hn 0, fun hb => ?_, fun hb => ?_⟩, fun e => (by cases e)⟩
    · have he := of_decide_eq_true hb
      refine spec.wide_Cmp h2 hx3 ?_
      rw [hw he]
      have hks : k ≤ (S.length : Int) := by omega
      have key : ∀ z : Int, (0 < z ↔ ((topk k.toNat S).getD (k.toNat - 1) default).2 < wv hi lo) → K (decide (0 < z)) u := fun z hz => hK _ (by rw [decide_eq_true_iff, hz]; exact ⟨fun h => ⟨hks, h⟩, fun h => h.2⟩)
      refine key _ ?_
      split
      · omega
      · split <;> omega
    · have he := of_decide_eq_false hb
      exact hK _ ⟨fun e => (by cases e), fun hc => by omega⟩
  refine spec.topk_Heap__Len hn ⟨fun h0 => ⟨_, hn4, full ⟨by omega, by omega⟩ fun e => by omega⟩, fun hne0 => ?_⟩
  obtain ⟨p, hpp, g, hg, c0, c1, c2⟩ := ho.hts.at (x := 0) (by omega) (by omega)
  have hg0 : l.getD 0 default = g := by
    rw [List.getD_eq_getElem?_getD]
    have : l[(0 : Int).toNat]? = some g := hg
    rw [show (0 : Int).toNat = 0 from rfl] at this
    rw [this]; rfl
  have hgl : g ∈ l := List.mem_of_getElem? hg
  have hgt : g ∈ topk k.toNat S := hp.mem_iff.1 hgl
  have hdg : Dok g.2 := hd g ((sortH_perm _).mem_iff.1 (List.mem_of_mem_take hgt))
  have e0 : p.add ((0 : Int).toNat * 3) = p.add 0 := rfl
  rw [e0] at c0 c1 c2
  refine ⟨_, rfl, s, H.cell?_of hn 1, p, hpp, ⟨by omega, by omega⟩, _, c0, _, c1, _, c2, _, hn4, full (loU _) fun e => ?_⟩
  rw [wv_hl]
  have hL : LtOk (fun a b : Hit => hlt b a) := ⟨fun a b h => hlt_asymm h, fun a b c h k => hlt_le_trans k h⟩
  have hmax : ∀ y ∈ topk k.toNat S, hlt g y = false := fun y hy => by
    have hyl := hp.mem_iff.2 hy
    obtain ⟨i, hi, rfl⟩ := List.getElem_of_mem hyl
    have h3 : hlt (l.getD 0 default) (l.getD i default) = false := hh.root hL i hi
    have e : l.getD i default = l[i] := by rw [List.getD_eq_getElem?_getD, List.getElem?_eq_getElem hi]; rfl
    rw [e, hg0] at h3
    exact h3
  have hl := srt_last (topk_srt k.toNat S) hgt hmax
  rw [topk_len] at hl
  rw [show k.toNat - 1 = min k.toNat S.length - 1 by omega, hl]

end Go.Proofs.YtljbcihbgeiacaaGreat

/- VcMeans -/
namespace Go.Proofs.YtljbcihbgeiacaaGreat

def encS (s : Sl) : List Value := [.slice s.a s.n s.c]
theorem encS_len (c : Sl × List Int) : (encS c.1).length = 1 := rfl

/-- Vectors in memory. -/
structure VcsAt (u : H) (s : Sl) (l : List (Sl × List Int)) : Prop where
  seg : Seg u s 1 (l.flatMap fun c => encS c.1)
  ints : ∀ c ∈ l, Ints u c.1 c.2

theorem VcsAt.mono {u u' : H} {s : Sl} {l : List (Sl × List Int)} (h : VcsAt u s l) (k : u.le u') : VcsAt u' s l := ⟨h.seg.mono k, fun c hc => (h.ints c hc).mono k⟩
theorem VcsAt.len {u : H} {s : Sl} {l : List (Sl × List Int)} (h : VcsAt u s l) : s.n = l.length := flat_n encS_len (by decide) h.seg
theorem VcsAt.at {u : H} {s : Sl} {l : List (Sl × List Int)} (h : VcsAt u s l) {x : Int} (h0 : 0 ≤ x) (h1 : x < (s.n : Int)) : ∃ p, s.a = some p ∧ ∃ c, l[x.toNat]? = some c ∧ c ∈ l ∧ u.cell? (p.add (x.toNat * 1)) = some (.slice c.1.a c.1.n c.1.c) ∧ Ints u c.1 c.2 := by
  have hn := h.len
  have hl : x.toNat < l.length := by omega
  have hx : l[x.toNat]? = some l[x.toNat] := List.getElem?_eq_getElem hl
  obtain ⟨p, hp, hc⟩ := Seg.elem encS_len (by decide) h.seg hx
  exact ⟨p, hp, _, hx, List.getElem_mem hl, hc 0 _ rfl, h.ints _ (List.getElem_mem hl)⟩

/-- Centres that may be, of a dimension. -/
structure CsOk (l : List (Sl × List Int)) (d : Int) : Prop where
  dim : 1 ≤ d ∧ d ≤ 64
  many : 0 < l.length ∧ l.length ≤ 64
  each : ∀ c ∈ l, (c.2.length : Int) = d ∧ vok c.2

theorem spec.kmeans_all {u : H} {s : Sl} {l : List (Sl × List Int)} {d : Int} {K : Int → H → Prop} (h : VcsAt u s l) (hd : 1 ≤ d ∧ d ≤ 64) (hc : ∀ c ∈ l, (c.2.length : Int) = d ∧ vok c.2) (hl : l.length ≤ 1000000) (hK : K 0 u) : C.kmeans_all s d u K := by
  have hn := h.len
  apply vc.kmeans_all
  refine ⟨fun _ x v => v = u ∧ 0 ≤ x, fun _ x _ => ((s.n : Int) - x).toNat, ⟨rfl, by omega⟩, ?_⟩
  rintro _ x v ⟨rfl, x0⟩
  refine ⟨fun hx => ?_, fun _ => hK⟩
  obtain ⟨p, hp, c, _, hcm, c0, hi⟩ := h.at x0 hx
  obtain ⟨e1, e2⟩ := hc c hcm
  exact ⟨p, hp, ⟨x0, hx⟩, _, c0, spec.vec_Check hi ⟨fun hne => absurd (vcheck_reg e2 e1 hd) hne, fun _ => ⟨⟨by omega, by omega⟩, ⟨rfl, by omega⟩, by dsimp only; omega⟩⟩⟩

theorem spec.kmeans_may {u : H} {s : Sl} {l : List (Sl × List Int)} {d : Int} {K : Int → H → Prop} (h : VcsAt u s l) (hc : CsOk l d) (hK : K 0 u) : C.kmeans_may s u K := by
  have hn := h.len
  have hm := hc.many
  apply vc.kmeans_may
  intro K0 h0
  refine ⟨fun hx => absurd hx (by omega), fun _ => ⟨fun hx => absurd hx (by omega), fun _ => h0 _ _ ?_⟩⟩
  obtain ⟨p, hp, c, _, hcm, c0, hi⟩ := h.at (x := 0) (by omega) (by omega)
  have hci := hi.len
  obtain ⟨e1, e2⟩ := hc.each c hcm
  refine ⟨p, hp, ⟨by omega, by omega⟩, _, c0, ?_⟩
  rw [show (c.1.n : Int) = d by omega]
  exact spec.kmeans_all h hc.dim hc.each (by omega) hK

/-- The first nearest of the first so many, and its distance. -/
def nearTo (cs : List (List Int)) (v : List Int) : Nat → Nat × Int
  | 0 => (0, 0)
  | n + 1 => if n = 0 ∨ sqTo (cs.getD n []) v v.length < (nearTo cs v n).2 then (n, sqTo (cs.getD n []) v v.length) else nearTo cs v n

theorem nearTo_lt (cs : List (List Int)) (v : List Int) : ∀ n, 0 < n → (nearTo cs v n).1 < n := by
  intro n
  induction n with
  | zero => intro h; omega
  | succ n ih =>
    intro _
    unfold nearTo
    split
    · exact Nat.lt_succ_self n
    · rename_i hc
      have := ih (by omega)
      omega

theorem spec.kmeans_near {u : H} {s t : Sl} {l : List (Sl × List Int)} {v : List Int} {d : Int} {K : Int → Int → Int → H → Prop} (h : VcsAt u s l) (hc : CsOk l d) (ht : Ints u t v) (hv : vok v) (hvd : (v.length : Int) = d)
    (hK : K (nearTo (l.map (·.2)) v l.length).1 (hiW (nearTo (l.map (·.2)) v l.length).2) (loW (nearTo (l.map (·.2)) v l.length).2) u) : C.kmeans_near s t u K := by
  have hn := h.len
  have hm := hc.many
  have z : U64 0 := ⟨by omega, by omega⟩
  have hd := hc.dim
  apply vc.kmeans_near
  refine ⟨fun a i x y w => w = u ∧ 0 ≤ i ∧ i ≤ s.n ∧ a = (nearTo (l.map (·.2)) v i.toNat).1 ∧ U64 x ∧ U64 y ∧ wv x y = (nearTo (l.map (·.2)) v i.toNat).2, fun _ i _ _ _ => ((s.n : Int) - i).toNat, ⟨rfl, by omega, by omega, rfl, z, z, rfl⟩, ?_⟩
  rintro a i x y w ⟨rfl, i0, i1, ea, hx, hy, hw⟩
  refine ⟨fun hi => ?_, fun hi => ?_⟩
  · obtain ⟨p, hp, c, hcx, hcm, c0, hci⟩ := h.at i0 hi
    obtain ⟨e1, e2⟩ := hc.each c hcm
    have eg : (l.map (·.2)).getD i.toNat [] = c.2 := by rw [List.getD_eq_getElem?_getD, List.getElem?_map, hcx]; rfl
    have hlen : c.2.length = v.length := by omega
    refine ⟨p, hp, ⟨i0, hi⟩, _, c0, spec.vec_Dist hci ht e2 (by omega) hv hlen fun x' y' hx' hy' hw' => ?_⟩
    rw [hlen] at hw'
    have step : nearTo (l.map (·.2)) v (i + 1).toNat = if i.toNat = 0 ∨ sqTo c.2 v v.length < (nearTo (l.map (·.2)) v i.toNat).2 then (i.toNat, sqTo c.2 v v.length) else nearTo (l.map (·.2)) v i.toNat := by
      rw [show (i + 1).toNat = i.toNat + 1 by omega]
      show (if _ then _ else _) = _
      rw [eg]
    have new : i.toNat = 0 ∨ sqTo c.2 v v.length < (nearTo (l.map (·.2)) v i.toNat).2 → InR (i + 1) ∧ (w = w ∧ 0 ≤ i + 1 ∧ i + 1 ≤ (s.n : Int) ∧ i = (nearTo (l.map (·.2)) v (i + 1).toNat).1 ∧ U64 x' ∧ U64 y' ∧ wv x' y' = (nearTo (l.map (·.2)) v (i + 1).toNat).2) ∧ ((s.n : Int) - (i + 1)).toNat < ((s.n : Int) - i).toNat := fun hc => by
      rw [step, if_pos hc]
      exact ⟨⟨by omega, by omega⟩, ⟨rfl, by omega, by omega, by show i = ((i.toNat : Nat) : Int); omega, hx', hy', hw'⟩, by omega⟩
    refine ⟨fun h0 => new (.inl (by omega)), fun h0 => spec.wide_Cmp hy' hy ?_⟩
    rw [hw, hw']
    by_cases hlt : sqTo c.2 v v.length < (nearTo (l.map (·.2)) v i.toNat).2
    · rw [if_pos hlt]
      exact ⟨fun _ => new (.inr hlt), fun hx => absurd (by decide) hx⟩
    · refine ⟨fun hx => absurd hx ?_, fun _ => ⟨⟨by omega, by omega⟩, ⟨rfl, by omega, by omega, ?_, hx, hy, ?_⟩, by dsimp only; omega⟩⟩
      · rw [if_neg hlt]; split <;> omega
      · rw [step, if_neg (by omega)]; exact ea
      · rw [step, if_neg (by omega)]; exact hw
  · have : i.toNat = l.length := by omega
    rw [this] at ea hw
    obtain ⟨g1, g2⟩ := wv_U hx hy
    rw [hw] at g1 g2
    rw [ea, g1, g2]
    exact hK

theorem spec.kmeans_Near {u : H} {s t : Sl} {l : List (Sl × List Int)} {v : List Int} {d : Int} {K : Int → Int → Int → Int → H → Prop} (h : VcsAt u s l) (hc : CsOk l d) (ht : Ints u t v) (hv : vok v) (hvd : (v.length : Int) = d)
    (hK : K (nearTo (l.map (·.2)) v l.length).1 (hiW (nearTo (l.map (·.2)) v l.length).2) (loW (nearTo (l.map (·.2)) v l.length).2) 0 u) : C.kmeans_Near s t u K := by
  have hn := h.len
  have hm := hc.many
  apply vc.kmeans_Near
  refine spec.kmeans_may h hc ⟨fun hx => absurd rfl hx, fun _ => ?_⟩
  obtain ⟨p, hp, c, _, hcm, c0, hi⟩ := h.at (x := 0) (by omega) (by omega)
  have hci := hi.len
  obtain ⟨e1, e2⟩ := hc.each c hcm
  refine ⟨p, hp, ⟨by omega, by omega⟩, _, c0, spec.vec_Check ht ⟨fun hx => absurd ?_ hx, fun _ => spec.kmeans_near h hc ht hv hvd hK⟩⟩
  rw [show (c.1.n : Int) = d by omega]
  exact vcheck_reg hv hvd hc.dim

end Go.Proofs.YtljbcihbgeiacaaGreat

/- VcBall -/
namespace Go.Proofs.YtljbcihbgeiacaaGreat

/-- The farthest of the first so many rows. -/
def radTo (c : List Int) (l : List Rw) : Nat → Int
  | 0 => 0
  | n + 1 => if radTo c l n < sqTo c (l.getD n ⟨0, ⟨none, 0, 0⟩, []⟩).v c.length then sqTo c (l.getD n ⟨0, ⟨none, 0, 0⟩, []⟩).v c.length else radTo c l n

theorem radTo_ge (c : List Int) (l : List Rw) : ∀ n, 0 ≤ radTo c l n ∧ ∀ i r, i < n → l[i]? = some r → sqTo c r.v c.length ≤ radTo c l n := by
  intro n
  induction n with
  | zero => exact ⟨Int.le_refl _, fun i r h => by omega⟩
  | succ n ih =>
    obtain ⟨h0, h1⟩ := ih
    unfold radTo
    have last : ∀ r, l[n]? = some r → l.getD n ⟨0, ⟨none, 0, 0⟩, []⟩ = r := fun r hr => by rw [List.getD_eq_getElem?_getD, hr]; rfl
    split
    · rename_i hlt
      refine ⟨by omega, fun i r hi hr => ?_⟩
      by_cases e : i = n
      · subst e; rw [last r hr]; exact Int.le_refl _
      · have := h1 i r (by omega) hr; omega
    · rename_i hge
      refine ⟨h0, fun i r hi hr => ?_⟩
      by_cases e : i = n
      · subst e; rw [last r hr] at hge; omega
      · exact h1 i r (by omega) hr

theorem radTo_ok {c : List Int} {l : List Rw} (hc : vok c) (hl : Rok l c.length) : ∀ n, n ≤ l.length → Dok (radTo c l n) := by
  intro n
  induction n with
  | zero => intro _; exact ⟨Int.le_refl _, (by decide : (0 : Int) < 340282366920938463463374607431768211456)⟩
  | succ n ih =>
    intro hn
    unfold radTo
    have hg : l.getD n ⟨0, ⟨none, 0, 0⟩, []⟩ ∈ l := by
      rw [List.getD_eq_getElem?_getD, List.getElem?_eq_getElem (by omega)]
      exact List.getElem_mem (by omega)
    obtain ⟨e1, e2⟩ := hl.v _ hg
    split
    · exact sqTo_ok hc e2 (by omega)
    · exact ih (by omega)

theorem spec.vec_Ball {s t : Sl} {c : List Int} {l : List Rw} {u : H} {K : Int → Sl → Sl → Int → Int → Sl → Int → H → Prop} (hs : Ints u s c) (hc : vok c) (ht : Rws u t l) (hl : Rok l c.length)
    (hK : ∀ s' i' u', OwnF u u' 3 1 s' (c.flatMap encI) → K 3 s' ⟨none, 0, 0⟩ (hiW (radTo c l l.length)) (loW (radTo c l l.length)) i' 0 u') : C.vec_Ball s t u K := by
  have hsn := hs.len
  have htn := ht.len
  have htm := ht.max
  have hd := hl.dim
  have h64 := hc.1
  have z : U64 0 := ⟨by omega, by omega⟩
  apply vc.vec_Ball
  refine spec.vec_Check hs ?_
  rw [hsn, vcheck_reg hc rfl hd]
  refine ⟨fun hx => absurd rfl hx, fun _ => spec.vec_ids ht hl fun i' u4 o4 => ⟨fun hx => absurd rfl hx, fun _ => ?_⟩⟩
  refine ⟨fun i x y w => w = u4 ∧ 0 ≤ i ∧ i ≤ t.n ∧ U64 x ∧ U64 y ∧ wv x y = radTo c l i.toNat, fun i _ _ _ => ((t.n : Int) - i).toNat, ⟨rfl, by omega, by omega, z, z, rfl⟩, ?_⟩
  rintro i x y w ⟨rfl, i0, i1, hx, hy, hw⟩
  refine ⟨fun hi => ?_, fun hi => ?_⟩
  · obtain ⟨p, hp, r, hr, c0, c1, hri⟩ := (ht.mono o4.le).at i0 hi
    have hrm := List.mem_of_getElem? hr
    obtain ⟨e1, e2⟩ := hl.v r hrm
    have eg : l.getD i.toNat ⟨0, ⟨none, 0, 0⟩, []⟩ = r := by rw [List.getD_eq_getElem?_getD, hr]; rfl
    have step : radTo c l (i + 1).toNat = if radTo c l i.toNat < sqTo c r.v c.length then sqTo c r.v c.length else radTo c l i.toNat := by
      rw [show (i + 1).toNat = i.toNat + 1 by omega]
      show (if _ then _ else _) = _
      rw [eg]
    refine ⟨p, hp, ⟨i0, hi⟩, _, c0, _, c1, spec.vec_far (hs.mono o4.le) hri hc e2 (by omega) fun x' y' hx' hy' hw' => spec.wide_Cmp hy' hy ?_⟩
    rw [hw, hw']
    by_cases hlt : radTo c l i.toNat < sqTo c r.v c.length
    · refine ⟨fun _ => ⟨⟨by omega, by omega⟩, ⟨rfl, by omega, by omega, hx', hy', by rw [step, if_pos hlt]; exact hw'⟩, by dsimp only; omega⟩, fun hx => absurd ?_ hx⟩
      rw [if_neg (by omega), if_pos hlt]
      decide
    · refine ⟨fun hx => absurd hx ?_, fun _ => ⟨⟨by omega, by omega⟩, ⟨rfl, by omega, by omega, hx, hy, by rw [step, if_neg hlt]; exact hw⟩, by dsimp only; omega⟩⟩
      rw [if_neg hlt]
      split <;> decide
  · have : i.toNat = l.length := by omega
    rw [this] at hw
    obtain ⟨g1, g2⟩ := wv_U hx hy
    rw [hw] at g1 g2
    refine spec.slices_Clone___int_int_ (hs.mono o4.le) (by omega) fun s' u' ho _ => ⟨ho.le, ?_⟩
    rw [g1, g2]
    exact hK _ _ _ (ho.weaken o4.le)

end Go.Proofs.YtljbcihbgeiacaaGreat

/- VcMaps -/
namespace Go.Proofs.YtljbcihbgeiacaaGreat

/-- What an entry tells. -/
def MapEntry.kv (e : MapEntry) : Value × Value := (e.key, e.val)
def kvOf (p : Int × Value) : Value × Value := (.int .i64 p.1, p.2)

theorem kvOf_inj {p q : Int × Value} (h : kvOf p = kvOf q) : p = q := by
  cases p; cases q
  simp only [kvOf, Prod.mk.injEq, Value.int.injEq, true_and] at h
  obtain ⟨h1, h2⟩ := h
  subst h1; subst h2; rfl

/-- A map's entries: their keys and values in the order of their births. -/
structure Ents (es : Array MapEntry) (clock : Nat) (l : List (Int × Value)) : Prop where
  kv : es.toList.map MapEntry.kv = l.map kvOf
  born : (es.toList.map (·.born)).Nodup
  lt : ∀ e ∈ es.toList, e.born < clock
  nodup : (l.map (·.1)).Nodup

def MapAt (u : H) (b : Nat) (l : List (Int × Value)) : Prop := ∃ es clock, u b = some (.map es clock) ∧ Ents es clock l

theorem MapAt.mono {u u' : H} {b : Nat} {l : List (Int × Value)} (h : MapAt u b l) (hu : u.le u') : MapAt u' b l := by
  obtain ⟨es, c, h1, h2⟩ := h
  exact ⟨es, c, hu _ _ h1, h2⟩

theorem MapAt.else {u u' : H} {b : Nat} {l : List (Int × Value)} (h : MapAt u b l) (hu : ∀ o, u b = some o → u' b = some o) : MapAt u' b l := by
  obtain ⟨es, c, h1, h2⟩ := h
  exact ⟨es, c, hu _ h1, h2⟩

def getL (l : List (Int × Value)) (x : Int) : Option Value := (l.find? fun p => p.1 == x).map (·.2)

theorem getL_none {l : List (Int × Value)} {x : Int} : getL l x = none ↔ x ∉ l.map (·.1) := by
  unfold getL
  rw [Option.map_eq_none_iff, List.find?_eq_none]
  simp only [beq_iff_eq, List.mem_map, Prod.exists, exists_and_right, exists_eq_right, not_exists, Prod.forall]
  exact ⟨fun h v hm => h x v hm rfl, fun h a b hm e => h b (e ▸ hm)⟩

theorem findNow_get (x : Int) : ∀ (es : List MapEntry) (l : List (Int × Value)) (i : Nat), es.map MapEntry.kv = l.map kvOf →
    (getL l x = none → Instr.findNow (.int .i64) (.int .i64 x) es i = some none) ∧ (∀ v, getL l x = some v → ∃ j, Instr.findNow (.int .i64) (.int .i64 x) es i = some (some (i + j, v)) ∧ l[j]? = some (x, v)) := by
  intro es
  induction es with
  | nil =>
    intro l i h
    have : l = [] := by simpa using h.symm
    subst this
    exact ⟨fun _ => rfl, fun v hv => (by simp [getL] at hv)⟩
  | cons e es ih =>
    intro l i h
    cases l with
    | nil => simp at h
    | cons y l =>
      simp only [List.map_cons, List.cons.injEq, MapEntry.kv, kvOf, Prod.mk.injEq] at h
      obtain ⟨⟨hk, hv⟩, hr⟩ := h
      obtain ⟨i1, i2⟩ := ih l (i + 1) hr
      unfold Instr.findNow
      rw [hk, hv]
      simp only [Instr.sameNow, if_true]
      by_cases hxy : y.1 = x
      · have hb : (x == y.1) = true := by simpa using hxy.symm
        have hg : getL (y :: l) x = some y.2 := by simp [getL, hxy]
        rw [hb, hg]
        refine ⟨fun h => (by cases h), fun v hv => ⟨0, ?_, ?_⟩⟩
        · cases hv; rfl
        · cases hv; simp [← hxy]
      · have hb : (x == y.1) = false := by simpa using fun h => hxy h.symm
        have hg : getL (y :: l) x = getL l x := by
          have : (y.1 == x) = false := by simpa using hxy
          simp [getL, this]
        rw [hb, hg]
        refine ⟨i1, fun v hv => ?_⟩
        obtain ⟨j, h1, h2⟩ := i2 v hv
        exact ⟨j + 1, by rw [h1, show i + 1 + j = i + (j + 1) by omega], by simpa using h2⟩

structure MapTy (P : Program) (t k e : TypeId) (z : Value) : Prop where
  ty : P.underlying t = some (.map k e)
  key : P.underlying k = some (.int .i64)
  zero : ∀ w, (zeroValue e).run P w = .ok z w

theorem MapTy.check {P : Program} {t k e : TypeId} {z : Value} (T : MapTy P t k e z) (b : Bool) (x : Int) (w : World) : (Instr.checkKey b 10000 k (.int .i64 x)).run P w = .ok () w := by
  show (Instr.checkKey b (9999 + 1) k (.int .i64 x)).run P w = .ok () w
  unfold Instr.checkKey
  simp [Sem.run_bind, run_underlying T.key, Result.andThen]

theorem MapTy.find {P : Program} {t k e : TypeId} {z : Value} (T : MapTy P t k e z) {es : Array MapEntry} {l : List (Int × Value)} (h : es.toList.map MapEntry.kv = l.map kvOf) (x : Int) (w : World) :
    (getL l x = none → (Instr.findKey k (.int .i64 x) es.toList).run P w = .ok none w) ∧ (∀ v, getL l x = some v → ∃ j, (Instr.findKey k (.int .i64 x) es.toList).run P w = .ok (some (j, v)) w ∧ l[j]? = some (x, v)) := by
  obtain ⟨h1, h2⟩ := findNow_get x es.toList l 0 h
  constructor
  · intro hx
    simp [Instr.findKey, Sem.run_bind, run_underlying T.key, Result.andThen, h1 hx]
  · intro v hv
    obtain ⟨j, hj, hl⟩ := h2 v hv
    rw [Nat.zero_add] at hj
    exact ⟨j, by simp [Instr.findKey, Sem.run_bind, run_underlying T.key, Result.andThen, hj], hl⟩

theorem SemT.two' {P : Program} {m : Sem Value} {c d : CT} {u : H} {K : c.den → d.den → H → Prop} (x : c.den) (y : d.den) (h : ∀ w, Sub u w → m.run P w = .ok (.tuple #[c.enc x, d.enc y]) w) (hK : K x y u) : SemT P m [.one c, .one d] u K := by
  intro w hw
  exact ⟨_, w, u, h w hw, ⟨[c.enc x, d.enc y], .cons x (.cons y .nil), rfl, (CT.un_enc c x _).2 ((CT.un_enc d y _).2 hK)⟩, Step.refl hw⟩

theorem sem_get2 {P : Program} {t k e : TypeId} {z : Value} (T : MapTy P t k e z) {u : H} {b : Nat} {l : List (Int × Value)} (h : MapAt u b l) {x : Int} {ct : CT} (y : ct.den) (hy : (getL l x).getD z = ct.enc y) {K : ct.den → Bool → H → Prop} (hK : K y (getL l x).isSome u) :
    SemT P (Instr.lookup t (.map (some b)) (.int .i64 x) true) [.one ct, .one .bool] u K := by
  obtain ⟨es, c, hb, hl⟩ := h
  refine SemT.two' (c := ct) (d := .bool) y _ (fun w hw => ?_) hK
  have hg := MapKept.run_getObj_map (P := P) (hw _ _ hb)
  have hc := T.check es.isEmpty x w
  obtain ⟨f1, f2⟩ := T.find hl.kv x w
  cases hx : getL l x with
  | none =>
    rw [hx] at hy
    have hy' : z = ct.enc y := hy
    simp [Instr.lookup, Sem.run_bind, run_underlying T.ty, hg, hc, f1 hx, Result.andThen, T.zero, hy', CT.enc]
  | some v =>
    rw [hx] at hy
    have hy' : v = ct.enc y := hy
    obtain ⟨j, hj, _⟩ := f2 v hx
    simp [Instr.lookup, Sem.run_bind, run_underlying T.ty, hg, hc, hj, Result.andThen, hy', CT.enc]

theorem sem_put {P : Program} {t k e : TypeId} {z : Value} (T : MapTy P t k e z) {u : H} {b : Nat} {l : List (Int × Value)} (h : MapAt u b l) {x : Int} {v : Value} (hx : getL l x = none) {K : H → Prop}
    (hK : ∀ o, MapAt (u.ins b o) b (l ++ [(x, v)]) → K (u.ins b o)) :
    SemT P (unit (Instr.mapUpdate t (.map (some b)) (.int .i64 x) v)) [] u K := by
  obtain ⟨es, c, hb, hl⟩ := h
  intro w hw
  have hg := MapKept.run_getObj_map (P := P) (hw _ _ hb)
  have hj := (T.find hl.kv x w).1 hx
  have hc := T.check false x w
  have hset := MapKept.run_setObj_map (P := P) (.map (es.push { key := .int .i64 x, val := v, born := c }) (c + 1)) (hw _ _ hb)
  refine ⟨_, _, u.ins b (.map (es.push { key := .int .i64 x, val := v, born := c }) (c + 1)), ?_, ⟨[], .nil, rfl, hK _ ⟨_, _, H.ins_same _ _ _, ?_, ?_, ?_, ?_⟩⟩, step_block hw hb _⟩
  · simp [unit, Instr.mapUpdate, Sem.run_bind, run_underlying T.ty, hg, hc, hj, Result.andThen, hset]
    rfl
  · simp [hl.kv, MapEntry.kv, kvOf]
  · rw [Array.toList_push, List.map_append]
    refine List.nodup_append.2 ⟨hl.born, by simp, fun a ha d hd => ?_⟩
    obtain ⟨e', he, rfl⟩ := List.mem_map.1 ha
    have := hl.lt e' he
    simp only [List.map_cons, List.map_nil, List.mem_singleton] at hd
    omega
  · intro e' he
    rw [Array.toList_push] at he
    rcases List.mem_append.1 he with he | he
    · have := hl.lt e' he; omega
    · obtain rfl : e' = _ := by simpa using he
      exact Nat.lt_succ_self c
  · rw [List.map_append]
    refine List.nodup_append.2 ⟨hl.nodup, by simp, fun a ha d hd => ?_⟩
    have := getL_none.1 hx
    simp only [List.map_cons, List.map_nil, List.mem_singleton] at hd
    exact fun e => this (by rw [← hd, ← e]; exact ha)

theorem erase_filter {l : List (Int × Value)} (hn : (l.map (·.1)).Nodup) {j : Nat} {x : Int} {v : Value} (h : l[j]? = some (x, v)) : l.eraseIdx j = l.filter fun p => p.1 != x := by
  induction l generalizing j with
  | nil => simp at h
  | cons p l ih =>
    have h3 := List.nodup_cons.1 hn
    cases j with
    | zero =>
      simp only [List.getElem?_cons_zero, Option.some.injEq] at h
      subst h
      have : l.filter (fun p => p.1 != x) = l := List.filter_eq_self.2 fun q hq => by
        have : q.1 ≠ x := fun e => h3.1 (List.mem_map.2 ⟨q, hq, e⟩)
        simpa using this
      simp [this]
    | succ j =>
      simp only [List.getElem?_cons_succ] at h
      have hp : p.1 ≠ x := fun e => h3.1 (List.mem_map.2 ⟨_, List.mem_of_getElem? h, e.symm⟩)
      rw [List.eraseIdx_cons_succ, ih h3.2 h, List.filter_cons_of_pos (by simpa using hp)]

theorem sem_del {P : Program} {t k e T' kT : TypeId} {z : Value} (T : MapTy P t k e z) {u : H} {b : Nat} {l : List (Int × Value)} (h : MapAt u b l) {x : Int} {K : H → Prop}
    (hK : ∀ o, MapAt (u.ins b o) b (l.filter fun p => p.1 != x) → K (u.ins b o)) :
    SemT P (Builtin.delete_ #[t, kT] T' #[.map (some b), .int .i64 x]) [] u K := by
  obtain ⟨es, c, hb, hl⟩ := h
  intro w hw
  have hg := MapKept.run_getObj_map (P := P) (hw _ _ hb)
  have hc := T.check es.isEmpty x w
  obtain ⟨f1, f2⟩ := T.find hl.kv x w
  cases hx : getL l x with
  | none =>
    have hset := MapKept.run_setObj_map (P := P) (.map es c) (hw _ _ hb)
    have hf : l.filter (fun p => p.1 != x) = l := List.filter_eq_self.2 fun q hq => by
      have : q.1 ≠ x := fun e => getL_none.1 hx (List.mem_map.2 ⟨q, hq, e⟩)
      simpa using this
    refine ⟨_, _, u.ins b (.map es c), ?_, ⟨[], .nil, rfl, hK _ ⟨_, _, H.ins_same _ _ _, by rw [hf]; exact hl⟩⟩, step_block hw hb _⟩
    simp [Builtin.delete_, Sem.run_bind, run_underlying T.ty, hg, hc, f1 hx, Result.andThen, hset]
    rfl
  | some v =>
    obtain ⟨j, hj, hlj⟩ := f2 v hx
    have hset := MapKept.run_setObj_map (P := P) (.map (es.eraseIdxIfInBounds j) c) (hw _ _ hb)
    have het : (es.eraseIdxIfInBounds j).toList = es.toList.eraseIdx j := by simp
    have hsub : (es.toList.eraseIdx j).Sublist es.toList := List.eraseIdx_sublist _ _
    refine ⟨_, _, u.ins b (.map (es.eraseIdxIfInBounds j) c), ?_, ⟨[], .nil, rfl, hK _ ⟨_, _, H.ins_same _ _ _, ?_, ?_, ?_, ?_⟩⟩, step_block hw hb _⟩
    · simp [Builtin.delete_, Sem.run_bind, run_underlying T.ty, hg, hc, hj, Result.andThen, hset]
      rfl
    · have key : ∀ {α β : Type} (f : α → β) (L : List α) (j : Nat), (L.eraseIdx j).map f = (L.map f).eraseIdx j := by
        intro α β f L
        induction L with
        | nil => intro j; rfl
        | cons a L ih => intro j; cases j with
          | zero => rfl
          | succ j => simp [ih j]
      rw [het, key, hl.kv, ← key, erase_filter hl.nodup hlj]
    · rw [het]; exact hl.born.sublist (hsub.map _)
    · intro e' he; rw [het] at he; exact hl.lt e' (hsub.mem he)
    · exact hl.nodup.sublist (List.Sublist.map _ List.filter_sublist)

theorem sem_maplen {P : Program} {t k e T' : TypeId} {z : Value} (T : MapTy P t k e z) {u : H} {b : Nat} {l : List (Int × Value)} (h : MapAt u b l) {K : Int → H → Prop} (hK : K l.length u) :
    SemT P (Builtin.len_ #[t] T' #[.map (some b)]) [.one (.int .i64)] u K := by
  obtain ⟨es, c, hb, hl⟩ := h
  have hlen : es.size = l.length := by have := congrArg List.length hl.kv; simpa using this
  refine .one' (c := .int .i64) (l.length : Int) (fun w hw => ?_) hK
  have hg := MapKept.run_getObj_map (P := P) (hw _ _ hb)
  simp [Builtin.len_, Sem.run_bind, run_underlying T.ty, hg, Result.andThen, hlen]
  rfl

theorem sem_mkmap {P : Program} {t : TypeId} {u : H} {K : Option Nat → H → Prop} (hK : ∀ b o, u b = none → MapAt (u.ins b o) b [] → K (some b) (u.ins b o)) : SemT P (Instr.makeMap t none) [.one .map] u K :=
  .one (c := .map) fun w hw => ⟨some w.heap.size, _, _, Go.RowKit.run_makeMap t w, hK _ _ (hw.none (Nat.le_refl _)) ⟨#[], 0, H.ins_same _ _ _, rfl, by simp, by simp, by simp⟩, Step.newKnown hw _⟩

/-! ### ranges -/

/-- An iterator over a map that stays as it is: what has come. -/
def IterAt (u : H) (r b : Nat) (l dl : List (Int × Value)) : Prop :=
  ∃ es clock seen, u b = some (.map es clock) ∧ Ents es clock l ∧ u r = some (.mapIter (some b) clock seen clock) ∧
    ∃ ds : List MapEntry, seen.toList = ds.map (·.born) ∧ ds.map MapEntry.kv = dl.map kvOf ∧ (∀ d ∈ ds, d ∈ es.toList) ∧ (dl.map (·.1)).Nodup

theorem IterAt.else {u u' : H} {r b : Nat} {l dl : List (Int × Value)} (h : IterAt u r b l dl) (hb : ∀ o, u b = some o → u' b = some o) (hr : ∀ o, u r = some o → u' r = some o) : IterAt u' r b l dl := by
  obtain ⟨es, c, seen, h1, h2, h3, h4⟩ := h
  exact ⟨es, c, seen, hb _ h1, h2, hr _ h3, h4⟩

theorem IterAt.map {u : H} {r b : Nat} {l dl : List (Int × Value)} (h : IterAt u r b l dl) : MapAt u b l := by
  obtain ⟨es, c, seen, h1, h2, _⟩ := h
  exact ⟨es, c, h1, h2⟩

theorem IterAt.sub {u : H} {r b : Nat} {l dl : List (Int × Value)} (h : IterAt u r b l dl) : ∀ p ∈ dl, p ∈ l := by
  obtain ⟨es, c, seen, h1, h2, h3, ds, h4, h5, h6, h7⟩ := h
  intro p hp
  have : kvOf p ∈ ds.map MapEntry.kv := by rw [h5]; exact List.mem_map.2 ⟨p, hp, rfl⟩
  obtain ⟨d, hd, e⟩ := List.mem_map.1 this
  have : kvOf p ∈ l.map kvOf := by rw [← h2.kv, ← e]; exact List.mem_map.2 ⟨d, h6 d hd, rfl⟩
  obtain ⟨q, hq, e⟩ := List.mem_map.1 this
  rw [← kvOf_inj e]; exact hq

end Go.Proofs.YtljbcihbgeiacaaGreat

/- VcIxB -/
namespace Go.Proofs.YtljbcihbgeiacaaGreat

def H0 : H := fun _ => none
theorem H0_le (u : H) : H0.le u := fun _ _ h => by cases h

theorem Own.f {u : H} {e k : Nat} {s : Sl} {xs : List Value} (h : Own u e k s xs) : OwnF H0 u e k s xs := ⟨h, H0_le u, fun _ _ => rfl⟩

/-- What is known but for a slice's block. -/
def H.sans (u : H) (s : Sl) : H := fun c => open Classical in if s.blk = some c then none else u c
theorem sans_at {u : H} {s : Sl} {c : Nat} (h : s.blk ≠ some c) : H.sans u s c = u c := if_neg h
theorem sans_le (u : H) (s : Sl) : (H.sans u s).le u := fun c o h => by
  unfold H.sans at h
  split at h
  · cases h
  · exact h
theorem sans_of {u : H} {s : Sl} {c : Nat} {o : Obj} (h : H.sans u s c = some o) : u c = some o ∧ s.blk ≠ some c := by
  unfold H.sans at h
  split at h
  · cases h
  · rename_i e; exact ⟨h, e⟩

section
variable {Tg Tr : Type}

/-- What lies in memory stays where its blocks do. -/
structure KeepG (A : (Nat → Option Tg) → H → Nat → Tr → Prop) : Prop where
  keep : ∀ {fp fp' : Nat → Option Tg} {u u' : H} {b : Nat} {T : Tr}, A fp u b T → (∀ c, fp c ≠ none → fp' c = fp c) → (∀ c o, u c = some o → fp c ≠ none → u' c = some o) → A fp' u' b T

/-- In memory, all of its blocks made behind u0. -/
structure InG (A : (Nat → Option Tg) → H → Nat → Tr → Prop) (u0 u : H) (fp : Nat → Option Tg) (b : Nat) (T : Tr) : Prop where
  tr : A fp u b T
  le : u0.le u
  out : ∀ c, fp c ≠ none → u0 c = none
  known : ∀ c, fp c ≠ none → u c ≠ none

/-- It has turned: what is not its own is as it was. -/
structure TurnG (u : H) (fp : Nat → Option Tg) (u' : H) (fp' : Nat → Option Tg) : Prop where
  keep : ∀ c o, u c = some o → fp c = none → u' c = some o
  grow : ∀ c, fp' c ≠ none → fp c ≠ none ∨ u c = none

variable {A : (Nat → Option Tg) → H → Nat → Tr → Prop}

omit A in
theorem TurnG.mono {u u' : H} {fp : Nat → Option Tg} (h : u.le u') : TurnG u fp u' fp := ⟨fun c o hc _ => h c o hc, fun _ h => .inl h⟩

omit A in
theorem TurnG.off {u u' : H} {fp fp' : Nat → Option Tg} (h : TurnG u fp u' fp') {c : Nat} {o : Obj} (hc : u c = some o) (hf : fp c = none) : fp' c = none := by
  cases e : fp' c with
  | none => rfl
  | some t =>
    rcases h.grow c (by rw [e]; simp) with h1 | h1
    · exact absurd hf h1
    · rw [hc] at h1; cases h1

omit A in
theorem TurnG.trans {u u1 u2 : H} {fp fp1 fp2 : Nat → Option Tg} (h : TurnG u fp u1 fp1) (k : TurnG u1 fp1 u2 fp2) : TurnG u fp u2 fp2 where
  keep c o hc hf := k.keep c o (h.keep c o hc hf) (h.off hc hf)
  grow c hc := by
    rcases k.grow c hc with h1 | h1
    · exact h.grow c h1
    · cases e : fp c with
      | some x => exact .inl (by simp)
      | none =>
        cases e2 : u c with
        | none => exact .inr rfl
        | some o => rw [h.keep c o e2 e] at h1; cases h1

omit A in
/-- Blocks that were unknown at first come to be its own. -/
theorem TurnG.tag {u u' : H} {fp fp' fp2 : Nat → Option Tg} (h : TurnG u fp u' fp') (k : ∀ c, fp2 c = fp' c ∨ fp c ≠ none ∨ u c = none) : TurnG u fp u' fp2 where
  keep := h.keep
  grow c hc := by
    rcases k c with h1 | h1
    · rw [h1] at hc; exact h.grow c hc
    · exact h1

theorem InG.same (hk : KeepG A) {u0 u u' : H} {fp : Nat → Option Tg} {b : Nat} {T : Tr} (h : InG A u0 u fp b T) (hu : ∀ c o, u c = some o → fp c ≠ none → u' c = some o) (hle : u0.le u') : InG A u0 u' fp b T :=
  ⟨hk.keep h.tr (fun _ _ => rfl) hu, hle, h.out, fun c hc => by
    obtain ⟨o, ho⟩ := Option.ne_none_iff_exists'.1 (h.known c hc)
    rw [hu c o ho hc]; simp⟩

theorem InG.mono (hk : KeepG A) {u0 u u' : H} {fp : Nat → Option Tg} {b : Nat} {T : Tr} (h : InG A u0 u fp b T) (hu : u.le u') : InG A u0 u' fp b T := h.same hk (fun c o hc _ => hu c o hc) (h.le.trans hu)

theorem InG.fresh {u0 u : H} {fp : Nat → Option Tg} {b : Nat} {T : Tr} (h : InG A u0 u fp b T) {c : Nat} (hc : u c = none) : fp c = none := by
  cases e : fp c with
  | none => rfl
  | some t => exact absurd hc (h.known c (by rw [e]; simp))

/-- Blocks that are nobody's yet come to be its own. -/
theorem InG.tag (hk : KeepG A) {u0 u : H} {fp : Nat → Option Tg} {b : Nat} {T : Tr} (h : InG A u0 u fp b T) (S : Nat → Option Tg) (hs : ∀ c, S c ≠ none → fp c = none ∧ u0 c = none ∧ u c ≠ none) :
    ∃ fp', InG A u0 u fp' b T ∧ (∀ c t, S c = some t → fp' c = some t) ∧ (∀ c, S c = none → fp' c = fp c) := by
  let fp' : Nat → Option Tg := fun c => match S c with | some t => some t | none => fp c
  have e1 : ∀ c t, S c = some t → fp' c = some t := fun c t hc => by simp only [fp', hc]
  have e2 : ∀ c, S c = none → fp' c = fp c := fun c hc => by simp only [fp', hc]
  have e3 : ∀ c, fp c ≠ none → fp' c = fp c := fun c hc => by
    cases e : S c with
    | none => exact e2 c e
    | some t => exact absurd (hs c (by rw [e]; simp)).1 hc
  refine ⟨fp', ⟨hk.keep h.tr e3 fun _ _ ho _ => ho, h.le, fun c hc => ?_, fun c hc => ?_⟩, e1, e2⟩
  · cases e : S c with
    | none => rw [e2 c e] at hc; exact h.out c hc
    | some t => exact (hs c (by rw [e]; simp)).2.1
  · cases e : S c with
    | none => rw [e2 c e] at hc; exact h.known c hc
    | some t => exact (hs c (by rw [e]; simp)).2.2

/-- A slice's block as blocks of a kind. -/
def Sl.tags (s : Sl) (t : Tg) : Nat → Option Tg := fun c => if s.blk = some c then some t else none

omit A in
theorem Sl.tags_at {s : Sl} {t : Tg} {c : Nat} (h : s.blk = some c) : s.tags t c = some t := if_pos h
omit A in
theorem Sl.tags_not {s : Sl} {t : Tg} {c : Nat} (h : s.blk ≠ some c) : s.tags t c = none := if_neg h
omit A in
theorem Sl.tags_ne {s : Sl} {t : Tg} {c : Nat} (h : s.tags t c ≠ none) : s.blk = some c := by
  by_cases e : s.blk = some c
  · exact e
  · exact absurd (Sl.tags_not e) h

/-- An index in memory: D: the blocks that are its own, all made behind u0. -/
structure IxG (A : (Nat → Option Tg) → H → Nat → Tr → Prop) (Ok : Tr → Prop) (u0 u : H) (D : Nat → Prop) (b : Nat) (X : Tr) : Prop where
  ex : ∃ fp, (∀ c, D c ↔ fp c ≠ none) ∧ InG A u0 u fp b X ∧ Ok X

end

structure IxTurn (u : H) (D : Nat → Prop) (u' : H) (D' : Nat → Prop) : Prop where
  keep : ∀ c o, u c = some o → ¬ D c → u' c = some o
  grow : ∀ c, D' c → D c ∨ u c = none

theorem IxTurn.mono {u u' : H} {D : Nat → Prop} (h : u.le u') : IxTurn u D u' D := ⟨fun c o hc _ => h c o hc, fun _ h => .inl h⟩

theorem IxTurn.trans {u u1 u2 : H} {D D1 D2 : Nat → Prop} (h : IxTurn u D u1 D1) (k : IxTurn u1 D1 u2 D2) : IxTurn u D u2 D2 where
  keep c o hc hf := k.keep c o (h.keep c o hc hf) fun hd => by
    rcases h.grow c hd with h1 | h1
    · exact hf h1
    · rw [hc] at h1; cases h1
  grow c hc := by
    rcases k.grow c hc with h1 | h1
    · exact h.grow c h1
    · by_cases e : D c
      · exact .inl e
      · right
        cases e2 : u c with
        | none => rfl
        | some o => rw [h.keep c o e2 e] at h1; cases h1

/-- What is apart from an index stays. -/
theorem IxTurn.apart {u u' v : H} {D D' : Nat → Prop} (h : IxTurn u D u' D') (hv : v.le u) (hd : ∀ c, D c → v c = none) : v.le u' ∧ ∀ c, D' c → v c = none := by
  refine ⟨fun c o hc => h.keep c o (hv c o hc) fun e => ?_, fun c hc => ?_⟩
  · have := hd c e; rw [hc] at this; cases this
  · rcases h.grow c hc with h1 | h1
    · exact hd c h1
    · exact hv.none h1

section
variable {Tg Tr : Type} {A : (Nat → Option Tg) → H → Nat → Tr → Prop} {Ok : Tr → Prop}

theorem ixg_of {u0 u : H} {fp : Nat → Option Tg} {b : Nat} {T : Tr} (h : InG A u0 u fp b T) (hT : Ok T) : IxG A Ok u0 u (fun c => fp c ≠ none) b T := ⟨fp, fun _ => Iff.rfl, h, hT⟩

omit A Ok in
theorem turn_ixg {u u' : H} {fp fp' : Nat → Option Tg} {D : Nat → Prop} (hD : ∀ c, D c ↔ fp c ≠ none) (h : TurnG u fp u' fp') : IxTurn u D u' (fun c => fp' c ≠ none) where
  keep c o hc hf := h.keep c o hc (by
    cases e : fp c with
    | none => rfl
    | some t => exact absurd ((hD c).2 (by rw [e]; simp)) hf)
  grow c hc := (h.grow c hc).imp (hD c).2 fun h => h

theorem IxG.base {u0 u : H} {D : Nat → Prop} {b : Nat} {X : Tr} (h : IxG A Ok u0 u D b X) : u0.le u ∧ (∀ c, D c → u0 c = none) ∧ ∀ c, D c → u c ≠ none := by
  obtain ⟨fp, h1, h2, _⟩ := h.ex
  exact ⟨h2.le, fun c hc => h2.out c ((h1 c).1 hc), fun c hc => h2.known c ((h1 c).1 hc)⟩

/-- An index is as it was where its own blocks are. -/
theorem IxG.same (hk : KeepG A) {u0 u u' : H} {D : Nat → Prop} {b : Nat} {X : Tr} (h : IxG A Ok u0 u D b X) (hu : ∀ c o, u c = some o → D c → u' c = some o) (hle : u0.le u') : IxG A Ok u0 u' D b X := by
  obtain ⟨fp, h1, h2, h3⟩ := h.ex
  exact ⟨fp, h1, h2.same hk (fun c o hc hf => hu c o hc ((h1 c).2 hf)) hle, h3⟩

theorem IxG.mono (hk : KeepG A) {u0 u u' : H} {D : Nat → Prop} {b : Nat} {X : Tr} (h : IxG A Ok u0 u D b X) (hu : u.le u') : IxG A Ok u0 u' D b X := h.same hk (fun c o hc _ => hu c o hc) (h.base.1.trans hu)

theorem IxG.rebase {u0 u v : H} {D : Nat → Prop} {b : Nat} {X : Tr} (h : IxG A Ok u0 u D b X) (hv : v.le u0) : IxG A Ok v u D b X := by
  obtain ⟨fp, h1, h2, h3⟩ := h.ex
  exact ⟨fp, h1, ⟨h2.tr, hv.trans h2.le, fun c hc => by
    cases hx : v c with
    | none => rfl
    | some o => have := hv _ _ hx; rw [h2.out c hc] at this; exact (nomatch this), h2.known⟩, h3⟩

end

end Go.Proofs.YtljbcihbgeiacaaGreat

/- VcIv0 -/
namespace Go.Proofs.YtljbcihbgeiacaaGreat.Iv

/-- What a block is for. -/
inductive Tg where
  | tree | carr | cvec | larr | list (i : Nat) | vec | map

/-- A tree: its dimension, its centres, its lists, where each row is. -/
structure Tr where
  dim : Int
  sc : Sl
  cs : List (Sl × List Int)
  sl : Sl
  ls : List (Sl × List Rw)
  m : Nat
  w : List (Int × Nat)

def Tr.links (T : Tr) : List (List Int) := T.cs.map (·.2)

def treeC (T : Tr) : List Value := [.int .i64 T.dim, .slice T.sc.a T.sc.n T.sc.c, .slice T.sl.a T.sl.n T.sl.c, .map (some T.m)]
def whereL (w : List (Int × Nat)) : List (Int × Value) := w.map fun x => (x.1, .int .i64 x.2)

/-- A list: of one's own, or full. -/
structure LsAt (u : H) (s : Sl) (l : List Rw) : Prop where
  seg : Seg u s 2 (l.flatMap encR)
  own : Own u 43 2 s (l.flatMap encR) ∨ s.n = s.c

structure TrAt (fp : Nat → Option Tg) (u : H) (b : Nat) (T : Tr) : Prop where
  cell : u b = some (.cells (treeC T).toArray 98 (0, 0))
  btag : fp b = some .tree
  carr : Seg u T.sc 1 (T.cs.flatMap fun c => encS c.1)
  cblk : ∀ g, T.sc.blk = some g → fp g = some .carr
  cvec : ∀ (i : Nat) c, T.cs[i]? = some c → Ints u c.1 c.2 ∧ ∀ g, c.1.blk = some g → fp g = some .cvec
  larr : Own u 22 1 T.sl (T.ls.flatMap fun l => encS l.1)
  lblk : ∀ g, T.sl.blk = some g → fp g = some .larr
  list : ∀ i l, T.ls[i]? = some l → LsAt u l.1 l.2 ∧ (∀ g, l.1.blk = some g → fp g = some (.list i)) ∧ ∀ r ∈ l.2, Ints u r.s r.v ∧ ∀ g, r.s.blk = some g → fp g = some .vec
  map : MapAt u T.m (whereL T.w)
  mtag : fp T.m = some .map

theorem LsAt.keep {u u' : H} {s : Sl} {l : List Rw} (h : LsAt u s l) (hu : ∀ c o, s.blk = some c → u c = some o → u' c = some o) : LsAt u' s l :=
  ⟨Seg.else h.seg fun g o hg ho => hu g o hg ho, h.own.imp (fun ho => ho.le fun b o hb hub => hu b o hb hub) id⟩

theorem TrAt.keep {fp fp' : Nat → Option Tg} {u u' : H} {b : Nat} {T : Tr} (h : TrAt fp u b T) (hf : ∀ c, fp c ≠ none → fp' c = fp c) (hu : ∀ c o, u c = some o → fp c ≠ none → u' c = some o) : TrAt fp' u' b T where
  cell := hu _ _ h.cell (by rw [h.btag]; simp)
  btag := by rw [hf _ (by rw [h.btag]; simp)]; exact h.btag
  carr := Seg.else h.carr fun g o hg ho => hu g o ho (by rw [h.cblk g hg]; simp)
  cblk g hg := by rw [hf _ (by rw [h.cblk g hg]; simp)]; exact h.cblk g hg
  cvec i c hc := ⟨Seg.else (h.cvec i c hc).1 fun g o hg ho => hu g o ho (by rw [(h.cvec i c hc).2 g hg]; simp), fun g hg => by rw [hf _ (by rw [(h.cvec i c hc).2 g hg]; simp)]; exact (h.cvec i c hc).2 g hg⟩
  larr := h.larr.le fun g o hg ho => hu g o ho (by rw [h.lblk g hg]; simp)
  lblk g hg := by rw [hf _ (by rw [h.lblk g hg]; simp)]; exact h.lblk g hg
  list i l hl := by
    obtain ⟨h1, h2, h3⟩ := h.list i l hl
    refine ⟨h1.keep fun g o hg ho => hu g o ho (by rw [h2 g hg]; simp), fun g hg => by rw [hf _ (by rw [h2 g hg]; simp)]; exact h2 g hg, fun r hr => ?_⟩
    obtain ⟨h4, h5⟩ := h3 r hr
    exact ⟨Seg.else h4 fun g o hg ho => hu g o ho (by rw [h5 g hg]; simp), fun g hg => by rw [hf _ (by rw [h5 g hg]; simp)]; exact h5 g hg⟩
  map := h.map.else fun o ho => hu _ _ ho (by rw [h.mtag]; simp)
  mtag := by rw [hf _ (by rw [h.mtag]; simp)]; exact h.mtag

theorem keep : KeepG TrAt := ⟨fun h h1 h2 => h.keep h1 h2⟩

abbrev In := InG TrAt

/-- What must hold of a tree. -/
structure TOk (T : Tr) : Prop where
  dm : 1 ≤ T.dim ∧ T.dim ≤ 64
  many : T.cs.length = T.ls.length ∧ 0 < T.cs.length ∧ T.cs.length ≤ 64
  cvok : ∀ c ∈ T.cs, (c.2.length : Int) = T.dim ∧ vok c.2
  vec : ∀ l ∈ T.ls, ∀ r ∈ l.2, (r.v.length : Int) = T.dim ∧ vok r.v
  ids : ∀ l ∈ T.ls, ∀ r ∈ l.2, 1 ≤ r.id ∧ r.id ≤ 1000000000
  nodup : ((T.ls.flatMap (·.2)).map (·.id)).Nodup
  wh : ∀ id i, (id, i) ∈ T.w ↔ ∃ l, T.ls[i]? = some l ∧ id ∈ l.2.map (·.id)
  wlen : T.w.length = (T.ls.flatMap (·.2)).length
  small : T.w.length ≤ 512
  near : ∀ i l, T.ls[i]? = some l → ∀ r ∈ l.2, (nearTo (T.cs.map (·.2)) r.v T.cs.length).1 = i

def ixRows (X : Tr) : List (Int × List Int) := (X.ls.flatMap (·.2)).map Rw.pr

end Go.Proofs.YtljbcihbgeiacaaGreat.Iv

/- VcWalkS -/
namespace Go.Proofs.YtljbcihbgeiacaaGreat

/-- What a region of a part tells, with ids of rows. -/
def coreW (x : Pt × List Prw) : Int × Int × List Int × List Int × List Int := (x.1.sh, x.1.rad, x.1.lo, x.1.hi, sortI (x.2.map (·.1)))

theorem core_rgn {r : Rgn} {p : Pt} {rows : List Prw} (h : r.core = coreW (p, rows)) : r.sh = p.sh ∧ r.rad = p.rad ∧ r.lo = p.lo ∧ r.hi = p.hi ∧ r.ids = sortI (rows.map (·.1)) := by
  simp only [Rgn.core, coreW, Prod.mk.injEq] at h
  exact ⟨h.1, h.2.1, h.2.2.1, h.2.2.2.1, h.2.2.2.2⟩

theorem near_core {r : Rgn} {p : Pt} {rows : List Prw} (h : r.core = coreW (p, rows)) (q : List Int) : nearR r q = nearR (p.rgn []) q := by
  obtain ⟨h1, h2, h3, h4, _⟩ := core_rgn h
  unfold nearR Pt.rgn
  simp only [h1, h2, h3, h4]

theorem inside_core {r : Rgn} {p : Pt} {rows : List Prw} (h : r.core = coreW (p, rows)) {v : List Int} (hi : Inside (p.rgn []) v) : Inside r v := by
  obtain ⟨h1, h2, h3, h4, _⟩ := core_rgn h
  unfold Inside Pt.rgn at *
  simp only [h1, h2, h3, h4] at *
  exact hi

theorem reg_core {r : Rgn} {p : Pt} {rows : List Prw} {d : Int} (h : r.core = coreW (p, rows)) (hp : RegOk (p.rgn []) d) (hn : (rows.map (·.1)).Nodup) (hid : ∀ x ∈ rows, 1 ≤ x.1 ∧ x.1 ≤ 1000000000) : RegOk r d := by
  obtain ⟨h1, h2, h3, h4, h5⟩ := core_rgn h
  refine ⟨hp.dim, by rw [h5]; exact sortI_rise hn, fun x hx => ?_, ?_⟩
  · rw [h5] at hx
    obtain ⟨y, hy, rfl⟩ := List.mem_map.1 ((sortI_perm _).mem_iff.1 hx)
    exact hid y hy
  · have := hp.shape
    unfold Pt.rgn at this
    simp only at this
    rw [h1, h2, h3, h4]
    exact this

theorem pick_rows {L : List Rw} : ∀ {S : List Prw}, (∀ x ∈ S, x ∈ L.map Rw.pr) → ∃ m : List Rw, m.map Rw.pr = S ∧ ∀ r ∈ m, r ∈ L := by
  intro S
  induction S with
  | nil => intro _; exact ⟨[], rfl, fun r hr => by cases hr⟩
  | cons x S ih =>
    intro h
    obtain ⟨m, h1, h2⟩ := ih fun y hy => h y (List.mem_cons_of_mem _ hy)
    obtain ⟨r, hr, e⟩ := List.mem_map.1 (h x (List.mem_cons_self ..))
    exact ⟨r :: m, by rw [List.map_cons, h1, e], fun y hy => by
      rcases List.mem_cons.1 hy with rfl | hy
      · exact hr
      · exact h2 y hy⟩

theorem left_flat (s : WS) : (leftW s).flatMap (·.2) = s.rest.flatMap (·.2) ++ s.heap.flatMap fun x => x.2.all := by
  unfold leftW
  rw [List.flatMap_append]
  congr 1
  generalize s.heap = l
  induction l with
  | nil => rfl
  | cons x l ih =>
    rw [List.map_cons, List.filter_cons, List.flatMap_cons]
    cases e : x.2.all with
    | nil => simpa [e] using ih
    | cons y ys => simp only [List.isEmpty_cons, Bool.not_false, if_true, List.flatMap_cons, ih]

theorem left_mem {q : List Int} {b : Int} {P : List Prw} {s : WS} (h : WOk q b P s) : ∀ x ∈ leftW s, PtOk q.length x.1 ∧ x.2 ≠ [] ∧ (∀ y ∈ x.2, y ∈ x.1.all) := by
  intro x hx
  unfold leftW at hx
  rcases List.mem_append.1 hx with h1 | h1
  · exact h.left x h1
  · obtain ⟨h2, h3⟩ := List.mem_filter.1 h1
    obtain ⟨y, hy, rfl⟩ := List.mem_map.1 h2
    refine ⟨(h.near y hy).2, fun e => ?_, fun z hz => hz⟩
    simp only at e
    rw [e] at h3
    cases h3

theorem sub_sum {α β : Type} {f : α → List β} {x : α} : ∀ {l : List α}, x ∈ l → List.Sublist (f x) (l.flatMap f) := by
  intro l
  induction l with
  | nil => intro h; cases h
  | cons y l ih =>
    intro h
    rw [List.flatMap_cons]
    rcases List.mem_cons.1 h with rfl | h
    · exact List.sublist_append_left _ _
    · exact (ih h).trans (List.sublist_append_right _ _)

theorem walk_sound {q : List Int} {k b : Int} {ps : List Pt} {L : List Rw} {rs : List Rgn} (hb : 0 ≤ b) (hk : 1 ≤ k) (hps : ∀ p ∈ ps, PtOk q.length p) (hq : Qok L q) (hL : (L.map Rw.pr).Perm (Pt.allL ps)) (hr : rs.map Rgn.core = (leftW (walkE q k b ps)).map coreW) :
    Sound L q k (topW q k (walkE q k b ps)) (sortI ((walkE q k b ps).seen.map (·.1))) rs ∧ ((sortI ((walkE q k b ps).seen.map (·.1))).length : Int) ≤ b ∧
      (((sortI ((walkE q k b ps).seen.map (·.1))).length : Int) = b ∨ (sortI ((walkE q k b ps).seen.map (·.1))).length = L.length ∨ CertA q k (topW q k (walkE q k b ps)) rs) := by
  obtain ⟨hw, hend⟩ := walkE_ok (k := k) hb hps
  generalize walkE q k b ps = s at *
  have hpl := hw.perm
  rw [← left_flat] at hpl
  have hall := hpl.trans hL.symm
  have hidL : (L.map Rw.pr).map (·.1) = L.map (·.id) := by rw [List.map_map]; rfl
  have hids : (s.seen.map (·.1) ++ ((leftW s).flatMap (·.2)).map (·.1)).Perm (L.map (·.id)) := by
    rw [← hidL, ← List.map_append]
    exact hall.map _
  have hnd := hids.nodup_iff.2 hq.rows.nodup
  have hns := (List.nodup_append.1 hnd).1
  have hnl := (List.nodup_append.1 hnd).2.1
  have hcore : ∀ r ∈ rs, ∃ x ∈ leftW s, r.core = coreW x := fun r hrm => by
    have : r.core ∈ (leftW s).map coreW := by rw [← hr]; exact List.mem_map_of_mem hrm
    obtain ⟨x, hx, e⟩ := List.mem_map.1 this
    exact ⟨x, hx, e.symm⟩
  have hmemL : ∀ x ∈ leftW s, ∀ y ∈ x.2, y ∈ L.map Rw.pr := fun x hx y hy => hall.mem_iff.1 (List.mem_append_right _ (List.mem_flatMap.2 ⟨x, hx, hy⟩))
  have hregs : ∀ r ∈ rs, ∃ x ∈ leftW s, r.core = coreW x ∧ RegOk r q.length := fun r hrm => by
    obtain ⟨x, hx, e⟩ := hcore r hrm
    obtain ⟨h1, h2, h3⟩ := left_mem hw x hx
    refine ⟨x, hx, e, reg_core (p := x.1) (rows := x.2) e h1.reg ?_ fun y hy => ?_⟩
    · exact hnl.sublist ((sub_sum hx).map _)
    · obtain ⟨w, hw', ew⟩ := List.mem_map.1 (hmemL x hx y hy)
      rw [← ew]
      exact hq.rows.id w hw'
  have hflat : (rs.flatMap (·.ids)).Perm (((leftW s).flatMap (·.2)).map (·.1)) := by
    have e1 : rs.flatMap (·.ids) = (rs.map Rgn.core).flatMap fun z => z.2.2.2.2 := by rw [List.flatMap_map]; rfl
    rw [e1, hr, List.flatMap_map]
    generalize leftW s = l
    induction l with
    | nil => exact .refl _
    | cons x l ih =>
      rw [List.flatMap_cons, List.flatMap_cons, List.map_append]
      exact (sortI_perm _).append ih
  have hlen : (sortI (s.seen.map (·.1))).length = s.seen.length := by rw [sortI_len, List.length_map]
  obtain ⟨ms, hm1, hm2⟩ := pick_rows (L := L) (S := s.seen) fun x hx => hall.mem_iff.1 (List.mem_append_left _ hx)
  have htop : topW q k s = topk k.toNat (ms.map (hitOf q)) := by
    unfold topW
    rw [← hm1, List.map_map]
    rfl
  refine ⟨⟨sortI_rise hns, fun r hrm => ?_, ?_, fun m hm hms => ?_⟩, by rw [hlen]; exact hw.few, ?_⟩
  · obtain ⟨x, hx, e, hreg⟩ := hregs r hrm
    obtain ⟨h1, h2, h3⟩ := left_mem hw x hx
    obtain ⟨_, _, _, _, e5⟩ := core_rgn (p := x.1) (rows := x.2) e
    refine ⟨hreg, fun hn => ?_, fun y hy => ?_⟩
    · rw [e5] at hn
      have := congrArg List.length hn
      rw [sortI_len, List.length_map, List.length_nil] at this
      exact h2 (List.eq_nil_of_length_eq_zero this)
    · rw [e5] at hy
      obtain ⟨z, hz, rfl⟩ := List.mem_map.1 ((sortI_perm _).mem_iff.1 hy)
      obtain ⟨w, hw', ew⟩ := List.mem_map.1 (hmemL x hx z hz)
      refine ⟨w, hw', by rw [← ew]; rfl, inside_core (p := x.1) (rows := x.2) e ?_⟩
      have := h1.ins z (h3 z hz)
      rw [← ew] at this
      exact this
  · exact ((sortI_perm _).append hflat).trans hids
  · rw [htop]
    have hp : m.Perm ms := by
      refine rows_perm hq.rows.nodup hm hm2 ?_
      rw [hms]
      refine (sortI_perm _).trans (List.Perm.of_eq ?_)
      rw [← hm1, List.map_map]
      rfl
    exact topk_eq (hp.symm.map _)
  · rw [hlen]
    have hfew := hw.few
    by_cases hcut : s.rest = []
    · by_cases hb2 : b ≤ (s.seen.length : Int)
      · left; omega
      by_cases hh : s.heap = []
      · right; left
        have h1 := hids.length_eq
        rw [left_flat, hcut, hh] at h1
        simpa using h1
      · right; right
        have hfull : fullW q k s (s.heap.getD 0 default).1 := by
          by_cases hf : fullW q k s (s.heap.getD 0 default).1
          · exact hf
          · exact absurd ⟨hh, by omega, hf⟩ hend
        obtain ⟨f1, f2⟩ := hfull
        right
        refine ⟨?_, fun r hrm => ?_⟩
        · unfold topW
          rw [topk_len, List.length_map]
          omega
        · obtain ⟨x, hx, e, _⟩ := hregs r hrm
          rw [near_core (p := x.1) (rows := x.2) e]
          unfold leftW at hx
          rw [hcut, List.nil_append] at hx
          obtain ⟨y, hy, rfl⟩ := List.mem_map.1 (List.mem_filter.1 hx).1
          obtain ⟨i, hi, rfl⟩ := List.getElem_of_mem hy
          have hroot := hw.hp.root bltOk i hi
          rw [List.getD_eq_getElem?_getD, List.getElem?_eq_getElem hi] at hroot
          have hge : (s.heap.getD 0 default).1 ≤ s.heap[i].1 := by
            have : ¬ s.heap[i].1 < (s.heap.getD 0 default).1 := of_decide_eq_false hroot
            omega
          have := (hw.near _ hy).1
          rw [show (k - 1).toNat = k.toNat - 1 by omega]
          show _ < nearR (s.heap[i].2.rgn []) q
          omega
    · left
      exact hw.cut hcut

end Go.Proofs.YtljbcihbgeiacaaGreat

/- VcSort2 -/
namespace Go.Proofs.YtljbcihbgeiacaaGreat
open Go.Shelf Go.RowKit Go.Sort

theorem flatK_list {α : Type} [Inhabited α] {enc : α → List Value} {k : Nat} (hk0 : 0 < k) (hk : ∀ x, (enc x).length = k) (d : Array α) : (flatK enc k d).toList = d.toList.flatMap enc := by
  apply List.ext_getElem?
  intro i
  rcases Nat.lt_or_ge i (d.size * k) with hi | hi
  · have e : i = i / k * k + i % k := by rw [Nat.mul_comm]; exact (Nat.div_add_mod i k).symm
    have hd : i / k < d.size := Nat.div_lt_of_lt_mul (by rw [Nat.mul_comm]; exact hi)
    have hr : i % k < k := Nat.mod_lt _ hk0
    have hf := flat_get hk d.toList (i / k) (i % k) hr
    rw [← e] at hf
    rw [hf]
    have : (flatK enc k d).toList[i]? = some ((flatK enc k d)[i]!) := by
      rw [Array.getElem?_toList, getElem!_pos _ i (by simpa using hi), Array.getElem?_eq_getElem (by simpa using hi)]
    rw [this, get_flatK _ _ _ _ hi]
    simp [hd]
    have h2 : i % k < (enc d[i / k]).length := by rw [hk]; exact hr
    rw [List.getElem?_eq_getElem h2]
    rfl
  · rw [List.getElem?_eq_none (by simpa using hi), List.getElem?_eq_none (by rw [flat_len hk]; simpa using hi)]

theorem sorted_list {α : Type} [Inhabited α] {cf : α → α → Int} {d : Array α} (hs : SortedIn (ltOf cf) 0 d.size d) : d.toList.Pairwise fun a b => ¬ cf b a < 0 := by
  refine List.pairwise_iff_getElem.2 fun i j hi hj hij => ?_
  have := hs i j (Nat.zero_le _) hij (by simpa using hj)
  simp only [Array.length_toList] at hi hj
  rw [getElem!_pos d j hj, getElem!_pos d i hi] at this
  unfold ltOf at this
  simpa using this

/-- slices.SortFunc, of rows, by whatever comparison that is pure. -/
theorem spec.slices_SortFunc__api_Row_ {α : Type} [Inhabited α] (val : α → Rw) {g : FuncId} {cf : α → α → Int} (hO : SWO (ltOf cf)) (eg : ∀ args w, (callFunc g args).run Tryz.prog w = .ok (.enter g args) w)
    (hcf : ∀ a b (u : H), ClT Tryz.prog g #[.agg (encR (val a)).toArray, .agg (encR (val b)).toArray] [.one (.int .i64)] u fun z' u' => z' = cf a b ∧ u' = u)
    {u0 u : H} {s : Sl} {l : List α} (ho : OwnF u0 u 43 2 s ((l.map val).flatMap encR)) (hsm : l.length < 4611686018427387904) {K : H → Prop}
    (hK : ∀ (u' : H) (l' : List α), l'.Perm l → (l'.Pairwise fun a b => ¬ cf b a < 0) → OwnF u0 u' 43 2 s ((l'.map val).flatMap encR) → Else u u' s → K u') : C.slices_SortFunc__api_Row_ s (.func (.func g) #[] #[]) u K := by
  intro w hw
  have hsn : s.n = l.length := by have := flat_n encR_len (by decide) ho.own.seg; simpa using this
  rcases ho.own.is with h0 | ⟨b, cur, ha, hg, hle, hc, hs, ht⟩
  · subst h0
    have hl : l = [] := by
      have : l.length = 0 := hsn.symm
      exact List.eq_nil_of_length_eq_zero this
    subst hl
    refine (AnyF.slices_SortFunc_none Tryz.sortRows none 0 _ w).mono ?_
    rintro e w' ⟨rfl, rfl⟩
    exact ⟨_, u, rfl, ⟨[], .nil, rfl, hK u [] (List.Perm.refl _) List.Pairwise.nil ho (Else.refl _ _)⟩, Step.refl hw⟩
  have hflat : ∀ m : List α, (m.map val).flatMap encR = m.flatMap fun x => encR (val x) := fun m => by rw [List.flatMap_map]
  have hH : HoldsK (fun x => encR (val x)) 2 w b 0 l.toArray := by
    intro j hj
    simp only [size_flatK, List.size_toArray] at hj
    have hl : ((l.map val).flatMap encR)[j]? = some ((flatK (fun x => encR (val x)) 2 l.toArray)[j]!) := by
      have := flatK_list (k := 2) (enc := fun x => encR (val x)) (by decide) (fun x => encR_len _) l.toArray
      simp only [] at this
      rw [hflat, ← this, Array.getElem?_toList, getElem!_pos _ j (by simpa using hj), Array.getElem?_eq_getElem (by simpa using hj)]
    constructor
    · rcases ho.own.seg.at' with h1 | ⟨p, hp, hcell⟩
      · rw [h1] at hl; simp at hl
      · rw [ha] at hp; cases hp
        have := hw.cell (hcell j _ hl)
        rw [Addr.add_lit, Nat.zero_add] at this
        simpa using this
    · simp [World.frozen?, hw _ _ hg]
  have hcall := AnyQ.slices_SortFunc Tryz.sortRows 2 (fun w => by kernel_rfl) (fun w => by kernel_rfl) (fun x => encR (val x)) (fun x => encR_len _) (fun x => encR_one _) cf hO g #[] b 0 s.c l.toArray w eg
    (fun m os dk _ x y => by
      have := grown_of_pure (hcf x y) (sortWorldK (fun x => encR (val x)) 2 w b 0 m dk os)
      simpa using this) hH (hw.lt hg) (by simpa using hsm)
  simp only [List.size_toArray] at hcall
  change Calls Tryz.prog 105 _ _ _ at hcall
  rw [ha, hsn]
  refine hcall.mono ?_
  rintro e w' ⟨rfl, d', n, os, ⟨hp1, _, hp3⟩, hsrt, rfl⟩
  simp only [List.size_toArray] at hp1
  have hperm : d'.toList.Perm l := by
    have e1 : d'.extract 0 l.length = d' := by rw [← hp1]; simp
    have e2 : l.toArray.extract 0 l.length = l.toArray := by simp
    rw [e1, e2] at hp3
    simpa using hp3
  obtain ⟨ho', he⟩ := ho.resort ha hg (F := flatK (fun x => encR (val x)) 2 d') (by rw [size_flatK, hp1, hsn])
  rw [flatK_list (by decide) (fun x => encR_len _), ← hflat] at ho'
  exact ⟨_, _, rfl, ⟨[], .nil, rfl, hK _ d'.toList hperm (sorted_list (by rw [hp1]; exact hsrt)) ho' he⟩, step_sorted hw hg n _ os⟩

end Go.Proofs.YtljbcihbgeiacaaGreat

/- VcOwn -/
namespace Go.Proofs.YtljbcihbgeiacaaGreat
open Go.Sort Go.Shelf

/-- Rows of one's own: their block, and each vector's. -/
structure RowsO (u0 u : H) (s : Sl) (ls : List Rw) : Prop where
  own : OwnF u0 u 43 2 s (ls.flatMap encR)
  inner : ∀ r ∈ ls, OwnF u0 u 3 1 r.s (r.v.flatMap encI)
  far : ∀ r ∈ ls, Far s r.s
  apart : ls.Pairwise fun a b => Far a.s b.s

theorem RowsO.rws {u0 u : H} {s : Sl} {ls : List Rw} (h : RowsO u0 u s ls) : Rws u s ls := ⟨h.own.own.seg, fun r hr => (h.inner r hr).ints⟩

theorem RowsO.mono {u0 u u' : H} {s : Sl} {ls : List Rw} (h : RowsO u0 u s ls) (k : u.le u') : RowsO u0 u' s ls :=
  ⟨h.own.mono k, fun r hr => (h.inner r hr).mono k, h.far, h.apart⟩

def Rws1 (r : Rw) : Prop := 1 ≤ r.id ∧ r.id ≤ 1000000000

theorem rowSWO : SWO (ltOf fun a b : { r // Rws1 r } => a.1.id - b.1.id) where
  irrefl x := by unfold ltOf; simp
  trans x y z h1 h2 := by unfold ltOf at *; simp only [decide_eq_true_eq] at *; omega
  ntrans x y z h1 h2 := by unfold ltOf at *; simp only [decide_eq_false_iff_not] at *; omega

instance : Inhabited { r // Rws1 r } := ⟨⟨⟨1, ⟨none, 0, 0⟩, []⟩, by unfold Rws1; decide⟩⟩

theorem spec.flat_Own {s : Sl} {l : List Rw} {u : H} {K : Sl → H → Prop} (hs : Rws u s l) (hid : ∀ r ∈ l, 1 ≤ r.id ∧ r.id ≤ 1000000000) (hn : l.length ≤ 1000000) (hv : ∀ r ∈ l, r.v.length ≤ 1000000)
    (hK : ∀ s' ls u', RowsO u u' s' ls → (ls.map Rw.pr).Perm (l.map Rw.pr) → (ls.Pairwise fun a b => a.id ≤ b.id) → K s' u') : C.flat_Own s u K := by
  have hsn := hs.len
  apply vc.flat_Own
  refine sem_make tRows (by omega) (Int.le_refl _) (by omega) (by omega) fun g hg => ?_
  have hmade : ∀ (n : Nat), (madeCells [Value.int .i64 0, .slice none 0 0].toArray (n * 2)).toList = (List.replicate n (⟨0, ⟨none, 0, 0⟩, []⟩ : Rw)).flatMap encR := fun n => made_flat (enc := encR) encR_len (by decide) ⟨0, ⟨none, 0, 0⟩, []⟩ n
  obtain ⟨cs, hcs⟩ : ∃ cs, madeCells [Value.int .i64 0, .slice none 0 0].toArray ((s.n : Int).toNat * 2) = cs := ⟨_, rfl⟩
  have hcl : cs.toList = (List.replicate l.length (⟨0, ⟨none, 0, 0⟩, []⟩ : Rw)).flatMap encR := by rw [← hcs, ← hmade, show (s.n : Int).toNat = l.length by omega]
  rw [hcs]
  have hcz : cs.size = l.length * 2 := by rw [← Array.length_toList, hcl, flat_len encR_len]; simp
  have ho0 : OwnF u (u.ins g (.cells cs 43 (0, 0))) 43 2 ⟨some ⟨g, 0, none⟩, l.length, l.length⟩ ((List.replicate l.length (⟨0, ⟨none, 0, 0⟩, []⟩ : Rw)).flatMap encR) := by
    have := OwnF.make (k := 2) (H.le.refl u) hg (cells := cs) (e := 43) (n := l.length) (by omega) hcz
    rw [hcl] at this
    exact this
  rw [show (s.n : Int).toNat = l.length by omega]
  have hblk : (⟨some ⟨g, 0, none⟩, l.length, l.length⟩ : Sl).blk = some g := rfl
  refine ⟨fun i w => 0 ≤ i ∧ i ≤ l.length ∧ ∃ D : List Rw, D.map Rw.pr = (l.take i.toNat).map Rw.pr ∧ RowsO u w ⟨some ⟨g, 0, none⟩, l.length, l.length⟩ (D ++ List.replicate (l.length - i.toNat) ⟨0, ⟨none, 0, 0⟩, []⟩),
    fun i _ => l.length - i.toNat, ⟨by omega, by omega, [], by simp, ?_⟩, ?_⟩
  · refine ⟨by simpa using ho0, fun r hr => ?_, fun r hr => ?_, ?_⟩
    · simp at hr
      rw [hr.2]
      exact OwnF.nil (H.le_ins _ hg) _ _
    · simp at hr
      rw [hr.2]
      intro x _ hx; simp [Sl.blk] at hx
    · simp only [List.nil_append]
      rw [List.pairwise_replicate]
      exact .inr fun x hx => by simp [Sl.blk] at hx
  rintro i w ⟨i0, i1, D, hD, hR⟩
  have hDl : D.length = i.toNat := by have := congrArg List.length hD; simp at this; omega
  refine ⟨fun hil => ?_, fun hig => ?_⟩
  · obtain ⟨p, hp, r, hr, c0, c1, c2⟩ := (hs.mono hR.own.le).at i0 hil
    have hrm : r ∈ l := List.mem_of_getElem? hr
    have hrv := c2.len
    have := hv r hrm
    refine ⟨p, hp, ⟨i0, hil⟩, _, c0, _, c1, spec.slices_Clone___int_int_ c2 (by omega) fun s9 u10 ho9 hn9 => ⟨ho9.le, _, rfl, ⟨i0, by show i < ((l.length : Nat) : Int); omega⟩, ?_⟩⟩
    have hR10 := hR.mono ho9.le
    refine OwnF.store (enc := encR) encR_len hR10.own (by decide) (i := i.toNat) (by simp; omega) (y := ⟨r.id, s9, r.v⟩) (encR_one _) rfl fun u12 ho12 he12 _ => ⟨⟨by omega, by omega⟩, ⟨by omega, by omega, D ++ [⟨r.id, s9, r.v⟩], ?_, ?_⟩, by dsimp only; omega⟩
    · rw [show (i + 1).toNat = i.toNat + 1 by omega, List.take_add_one, hr, List.map_append, hD]
      simp [Rw.pr]
    · have hset : (D ++ List.replicate (l.length - i.toNat) (⟨0, ⟨none, 0, 0⟩, []⟩ : Rw)).set i.toNat ⟨r.id, s9, r.v⟩ = D ++ [⟨r.id, s9, r.v⟩] ++ List.replicate (l.length - (i + 1).toNat) ⟨0, ⟨none, 0, 0⟩, []⟩ := by
        rw [show l.length - i.toNat = (l.length - (i + 1).toNat) + 1 by omega, List.replicate_succ, ← hDl, set_mid]
        simp
      rw [hset] at ho12
      -- blocks
      have hold : ∀ x ∈ D, OwnF u w 3 1 x.s (x.v.flatMap encI) := fun x hx => hR.inner x (List.mem_append_left _ hx)
      have hgk : w g ≠ none := own_known hR.own hblk
      have hs9g : s9.blk ≠ some g := fun e => hgk (ho9.fresh g e)
      have hfarD : ∀ x ∈ D, Far x.s s9 := fun x hx c hc hc' => own_known (hold x hx) hc (ho9.fresh c hc')
      have hDg : ∀ x ∈ D, Far ⟨some ⟨g, 0, none⟩, l.length, l.length⟩ x.s := fun x hx => hR.far x (List.mem_append_left _ hx)
      refine ⟨ho12, fun x hx => ?_, fun x hx => ?_, ?_⟩
      · rcases List.mem_append.1 hx with hx | hx
        · rcases List.mem_append.1 hx with hx | hx
          · exact OwnF.else (e := 0) ((hold x hx).mono ho9.le) he12 (fun c hc => hR.own.fresh c hc) fun c hc => hDg x hx c hc
          · simp at hx
            subst hx
            exact OwnF.else (e := 0) (ho9.weaken hR.own.le) he12 (fun c hc => hR.own.fresh c hc) fun c hc => by
              have : c = g := by rw [hblk] at hc; exact (Option.some.inj hc).symm
              rw [this]; exact hs9g
        · rw [(List.mem_replicate.1 hx).2]
          exact OwnF.nil (ho12.le) _ _
      · rcases List.mem_append.1 hx with hx | hx
        · rcases List.mem_append.1 hx with hx | hx
          · exact hDg x hx
          · simp at hx
            subst hx
            intro c hc
            have : c = g := by rw [hblk] at hc; exact (Option.some.inj hc).symm
            rw [this]; exact hs9g
        · rw [(List.mem_replicate.1 hx).2]
          intro c _ hc; simp [Sl.blk] at hc
      · have hap := (List.pairwise_append.1 hR.apart).1
        refine List.pairwise_append.2 ⟨List.pairwise_append.2 ⟨hap, by simp, fun x hx y hy => ?_⟩, ?_, fun x hx y hy => ?_⟩
        · simp at hy; subst hy; exact hfarD x hx
        · rw [List.pairwise_replicate]
          exact .inr fun c hc => by simp [Sl.blk] at hc
        · rw [(List.mem_replicate.1 hy).2]
          intro c _ hc; simp [Sl.blk] at hc
  · have hil : i.toNat = l.length := by
      have : ¬ i < (s.n : Int) := hig
      omega
    rw [hil, Nat.sub_self, List.replicate_zero, List.append_nil] at hR
    rw [hil, List.take_length] at hD
    have hin : ∀ r ∈ D, Rws1 r := fun r hr => by
      have : r.pr ∈ l.map Rw.pr := by rw [← hD]; exact List.mem_map.2 ⟨r, hr, rfl⟩
      obtain ⟨r', hr', e⟩ := List.mem_map.1 this
      have h1 := hid r' hr'
      have : r'.id = r.id := congrArg Prod.fst e
      unfold Rws1; rw [← this]; exact h1
    obtain ⟨E, hE⟩ : ∃ E : List { r // Rws1 r }, E.map (·.1) = D := ⟨D.attachWith _ hin, by simp⟩
    have hown := hR.own
    rw [← hE] at hown
    refine spec.slices_SortFunc__api_Row_ (val := fun r : { r // Rws1 r } => r.1) rowSWO (enters_of Tryz.func106 (by kernel_rfl) rfl) (fun a b v => ?_) hown (by have := congrArg List.length hE; simp at this; omega) fun u2 E' hp hsrt ho2 he2 => hK _ (E'.map (·.1)) _ ?_ ?_ ?_
    · have ha := a.2
      have hb := b.2
      unfold Rws1 at ha hb
      exact vc.flat_Own_1 a.1.id a.1.s b.1.id b.1.s v (fun z' u2 => z' = a.1.id - b.1.id ∧ u2 = v) ⟨⟨by omega, by omega⟩, rfl, rfl⟩
    · have hpm : (E'.map (·.1)).Perm D := by rw [← hE]; exact hp.map _
      have hmem : ∀ x ∈ E'.map (·.1), x ∈ D := fun x hx => hpm.mem_iff.1 hx
      exact ⟨ho2, fun r hr => OwnF.else (e := 0) (hR.inner r (hmem r hr)) he2 (fun c hc => hR.own.fresh c hc) fun c hc => hR.far r (hmem r hr) c hc, fun r hr => hR.far r (hmem r hr), hR.apart.perm hpm.symm fun h => h.symm⟩
    · rw [← hD, ← hE]
      exact ((hp.map (·.1)).map Rw.pr)
    · rw [List.pairwise_map]
      exact hsrt.imp fun h => by omega

/-- The error of a row that is to be put. -/
def mayErr (id : Int) (v : List Int) (d : Int) (there : Bool) (many : Int) : Int :=
  if id < 1 ∨ 1000000000 < id then 50 else if vcheck v d ≠ 0 then vcheck v d else if there = false ∧ 512 ≤ many then 2 else 0

theorem spec.flat_May {id : Int} {s : Sl} {v : List Int} {d : Int} {there : Bool} {many : Int} {u : H} {K : Int → H → Prop} (hs : Ints u s v) (h : K (mayErr id v d there many) u) : C.flat_May id s d there many u K := by
  apply vc.flat_May
  refine spec.vec_Check hs ?_
  intro K2 hK2
  have go : ∀ bb : Bool, (bb = true ↔ (id < 1 ∨ 1000000000 < id)) → K2 bb u := fun bb hb => hK2 bb u ⟨fun e => ?_, fun e => ⟨fun hne => ?_, fun he => ⟨fun ht => ⟨fun hm => ?_, fun hm => ?_⟩, fun ht => ?_⟩⟩⟩
  · exact ⟨fun h1 => go true ⟨fun _ => .inl h1, fun _ => rfl⟩, fun h1 => go _ ⟨fun e => .inr (by simpa using e), fun e => by simp; omega⟩⟩
  · unfold mayErr at h; rw [if_pos (hb.1 e)] at h; exact h
  all_goals
    have hnb : ¬ (id < 1 ∨ 1000000000 < id) := fun e2 => by rw [hb.2 e2] at e; cases e
    unfold mayErr at h
    rw [if_neg hnb] at h
  · rw [if_pos hne] at h; exact h
  · rw [if_neg (by simpa using he), if_pos ⟨by simpa using ht, hm⟩] at h; exact h
  · rw [if_neg (by simpa using he), if_neg (fun h2 => hm h2.2)] at h; exact h
  · rw [if_neg (by simpa using he), if_neg (fun h2 => by rw [ht] at h2; cases h2.1)] at h; exact h

/-- The error of a question. -/
def askErr (q : List Int) (d k b : Int) : Int := if vcheck q d ≠ 0 then vcheck q d else if k < 1 ∨ 64 < k ∨ b < 0 ∨ 1000000 < b then 1 else 0

theorem spec.flat_Asked {t : Sl} {q : List Int} {d k b : Int} {u : H} {K : Int → H → Prop} (ht : Ints u t q) (h : K (askErr q d k b) u) : C.flat_Asked t d k b u K := by
  unfold askErr at h
  apply vc.flat_Asked
  refine spec.vec_Check ht ⟨fun hne => by rw [if_pos hne] at h; exact h, fun he => ?_⟩
  rw [if_neg (by simpa using he)] at h
  by_cases hbad : k < 1 ∨ 64 < k ∨ b < 0 ∨ 1000000 < b
  · rw [if_pos hbad] at h
    exact ⟨fun _ => h, fun k1 => ⟨fun _ => h, fun k2 => ⟨fun _ => h, fun b1 => ⟨fun _ => h, fun b2 => by omega⟩⟩⟩⟩
  · rw [if_neg hbad] at h
    exact ⟨fun k1 => by omega, fun _ => ⟨fun k2 => by omega, fun _ => ⟨fun b1 => by omega, fun _ => ⟨fun b2 => by omega, fun _ => h⟩⟩⟩⟩

theorem askErr_ok {q : List Int} {d k b : Int} : askErr q d k b = 0 ↔ vcheck q d = 0 ∧ 1 ≤ k ∧ k ≤ 64 ∧ 0 ≤ b ∧ b ≤ 1000000 := by
  unfold askErr
  by_cases h1 : vcheck q d = 0
  · rw [if_neg (by simpa using h1)]
    by_cases h2 : k < 1 ∨ 64 < k ∨ b < 0 ∨ 1000000 < b
    · rw [if_pos h2]; constructor
      · intro h; cases h
      · rintro ⟨_, h3⟩; omega
    · rw [if_neg h2]; exact ⟨fun _ => ⟨h1, by omega⟩, fun _ => rfl⟩
  · rw [if_pos h1]
    exact ⟨fun h => absurd h h1, fun h => absurd h.1 h1⟩

end Go.Proofs.YtljbcihbgeiacaaGreat

/- VcIv1 -/
namespace Go.Proofs.YtljbcihbgeiacaaGreat.Iv

/-- A list as a part: the ball round its centre. -/
def partI (c : List Int) (l : List Rw) : Pt := .mk 3 c [] (radTo c l l.length) (l.map Rw.pr) []

def partsI : List (Sl × List Int) → List (Sl × List Rw) → List Pt
  | c :: cs, l :: ls => partI c.2 l.2 :: partsI cs ls
  | _, _ => []

theorem partsI_all : ∀ (cs : List (Sl × List Int)) (ls : List (Sl × List Rw)), cs.length = ls.length → Pt.allL (partsI cs ls) = (ls.flatMap (·.2)).map Rw.pr := by
  intro cs
  induction cs with
  | nil =>
    intro ls h
    cases ls with
    | nil => rfl
    | cons l ls => simp at h
  | cons c cs ih =>
    intro ls h
    cases ls with
    | nil => simp at h
    | cons l ls =>
      have := ih ls (by simpa using h)
      simp only [partsI, Pt.allL, this, List.flatMap_cons, List.map_append]
      congr 1
      unfold partI
      rw [Pt.all_eq]
      show l.2.map Rw.pr ++ [] = _
      rw [List.append_nil]

theorem partI_ok {c : List Int} {l : List Rw} {d : Int} (hc : (c.length : Int) = d ∧ vok c) (hl : Rok l d) : PtOk d (partI c l) := by
  have hrok : Rok l c.length := by rw [hc.1]; exact hl
  refine .mk ⟨hl.dim, List.Pairwise.nil, fun x hx => (by cases hx), .inr (.inr ⟨rfl, rfl, hc.2, hc.1, radTo_ok hc.2 hrok _ (Nat.le_refl _)⟩)⟩ (fun x hx => ?_) (fun k hk => (by cases hk))
  have hx' : x ∈ l.map Rw.pr := by
    rw [Pt.all_eq] at hx
    have h2 : x ∈ l.map Rw.pr ++ [] := hx
    rwa [List.append_nil] at h2
  obtain ⟨r, hr, rfl⟩ := List.mem_map.1 hx'
  obtain ⟨i, hi, rfl⟩ := List.getElem_of_mem hr
  exact ⟨fun e => (by cases e), fun _ => (radTo_ge c l l.length).2 i _ hi (List.getElem?_eq_getElem hi)⟩

theorem partsI_ok {d : Int} : ∀ (cs : List (Sl × List Int)) (ls : List (Sl × List Rw)), (∀ c ∈ cs, (c.2.length : Int) = d ∧ vok c.2) → (∀ l ∈ ls, Rok l.2 d) → ∀ p ∈ partsI cs ls, PtOk d p := by
  intro cs
  induction cs with
  | nil => intro ls _ _ p hp; cases ls <;> cases hp
  | cons c cs ih =>
    intro ls h1 h2 p hp
    cases ls with
    | nil => cases hp
    | cons l ls =>
      rcases List.mem_cons.1 hp with rfl | hp
      · exact partI_ok (h1 c (List.mem_cons_self ..)) (h2 l (List.mem_cons_self ..))
      · exact ih ls (fun c hc => h1 c (List.mem_cons_of_mem _ hc)) (fun l hl => h2 l (List.mem_cons_of_mem _ hl)) p hp

noncomputable def walkI (X : Tr) (q : List Int) (k bud : Int) : WS := walkE q k bud (partsI X.cs X.ls)
noncomputable def ixH (X : Tr) (q : List Int) (k bud : Int) : List Hit := topW q k (walkI X q k bud)
noncomputable def ixS (X : Tr) (q : List Int) (k bud : Int) : List Int := sortI ((walkI X q k bud).seen.map (·.1))
noncomputable def ixR (X : Tr) (q : List Int) (k bud : Int) : List (Int × Int × List Int × List Int × List Int) := (leftW (walkI X q k bud)).map coreW

theorem TOk.rok {X : Tr} (h : TOk X) : Rok (X.ls.flatMap (·.2)) X.dim :=
  ⟨h.dm, by rw [← h.wlen]; exact h.small, fun r hr => by obtain ⟨l, hl, hr⟩ := List.mem_flatMap.1 hr; exact h.ids l hl r hr, h.nodup, fun r hr => by obtain ⟨l, hl, hr⟩ := List.mem_flatMap.1 hr; exact h.vec l hl r hr⟩

/-- A search of the lists is sound. -/
theorem tree_sound {X : Tr} (h : TOk X) {q : List Int} {k bud : Int} (hk : 1 ≤ k) (hb : 0 ≤ bud) (hd : (q.length : Int) = X.dim) {L : List Rw} (hL : (L.map Rw.pr).Perm (ixRows X)) (hq : Qok L q) {rest : List Rgn} (hr : rest.map Rgn.core = ixR X q k bud) :
    Sound L q k (ixH X q k bud) (ixS X q k bud) rest ∧ ((ixS X q k bud).length : Int) ≤ bud ∧ (((ixS X q k bud).length : Int) = bud ∨ (ixS X q k bud).length = L.length ∨ CertA q k (ixH X q k bud) rest) := by
  have hrok := h.rok
  refine walk_sound hb hk (partsI_ok X.cs X.ls (fun c hc => by rw [hd]; exact h.cvok c hc) fun l hl => ?_) hq ?_ hr
  · rw [hd]
    exact hrok.sub (sub_sum (f := fun l : Sl × List Rw => l.2) hl)
  · rw [partsI_all _ _ h.many.1]
    exact hL

end Go.Proofs.YtljbcihbgeiacaaGreat.Iv

/- VcRowF -/
namespace Go.Proofs.YtljbcihbgeiacaaGreat

/-- What a predicate's function value is asked of rows: it looks at no more than what was known at first. -/
def RowPred (ub : H) (fv : Value) (p : Rw → Bool) : Prop := ∀ (r : Rw) (v : H) (K : Bool → H → Prop), ub.le v → K (p r) v → ClY Tryz.prog fv #[.agg #[.int .i64 r.id, .slice r.s.a r.s.n r.s.c]] [.one .bool] v K

theorem spec.slices_IndexFunc__api_Row_ {ub u : H} {s : Sl} {l : List Rw} {fv : Value} {p : Rw → Bool} {K : Int → H → Prop} (hs : Seg u s 2 (l.flatMap encR)) (hp : RowPred ub fv p) (hub : ub.le u)
    (hK : ∀ (i : Nat) r, l[i]? = some r → (∀ (k : Nat) r', k < i → l[k]? = some r' → p r' = false) → p r = true → K i u) (hN : (∀ r ∈ l, p r = false) → K (-1) u) : C.slices_IndexFunc__api_Row_ s fv u K := by
  have hn : s.n = l.length := flat_n encR_len (by decide) hs
  have hm : s.n ≤ 9223372036854775807 := Nat.le_trans (Seg.cap hs) (Seg.max hs)
  apply vc.slices_IndexFunc__api_Row_
  refine ⟨fun _ i v => v = u ∧ 0 ≤ i ∧ i ≤ l.length ∧ ∀ (k : Nat) r', k < i.toNat → l[k]? = some r' → p r' = false, fun _ i _ => l.length - i.toNat, ⟨rfl, by omega, by omega, fun k r' hk => by simp at hk⟩, ?_⟩
  rintro _ i v ⟨rfl, i0, i1, hk⟩
  refine ⟨fun hil => ?_, fun hge => hN fun r hr => ?_⟩
  · have hl : i.toNat < l.length := by omega
    have hx : l[i.toNat]? = some l[i.toNat] := List.getElem?_eq_getElem hl
    obtain ⟨q, hq, hc⟩ := Seg.elem encR_len (by decide) hs hx
    have c0 := hc 0 _ rfl
    rw [Addr.add_zero'] at c0
    refine ⟨q, hq, ⟨i0, hil⟩, _, c0, _, hc 1 _ rfl, hp _ _ _ hub ⟨fun hb => ?_, fun hb => ⟨⟨by omega, by omega⟩, ⟨rfl, by omega, by omega, fun k r' hk' hr' => ?_⟩, by dsimp only; omega⟩⟩⟩
    · have := hK i.toNat _ hx hk hb
      rw [show ((i.toNat : Nat) : Int) = i by omega] at this
      exact this
    · by_cases e : k = i.toNat
      · subst e
        rw [hx] at hr'; cases hr'
        exact hb
      · exact hk k r' (by omega) hr'
  · obtain ⟨k, hk', rfl⟩ := List.getElem_of_mem hr
    exact hk k _ (by omega) (List.getElem?_eq_getElem hk')

end Go.Proofs.YtljbcihbgeiacaaGreat

/- VcIv2 -/
namespace Go.Proofs.YtljbcihbgeiacaaGreat.Iv

theorem tLists : elemT Tryz.prog 95 = some (22, 1, 24, [.slice none 0 0]) := by kernel_rfl
theorem whTy : MapTy Tryz.prog 96 3 3 (.int .i64 0) := ⟨by kernel_rfl, by kernel_rfl, fun _ => by kernel_rfl⟩

theorem encSL_len (c : Sl × List Rw) : (encS c.1).length = 1 := rfl

theorem tree_cells {fp : Nat → Option Tg} {u : H} {b : Nat} {T : Tr} (h : TrAt fp u b T) : u.cell? ⟨b, 0, none⟩ = some (.int .i64 T.dim) ∧ u.cell? ((Addr.mk b 0 none).add 1) = some (.slice T.sc.a T.sc.n T.sc.c) ∧
    u.cell? ((Addr.mk b 0 none).add 2) = some (.slice T.sl.a T.sl.n T.sl.c) ∧ u.cell? ((Addr.mk b 0 none).add 3) = some (.map (some T.m)) :=
  ⟨H.cell?_of h.cell 0, H.cell?_of h.cell 1, H.cell?_of h.cell 2, H.cell?_of h.cell 3⟩

theorem TrAt.ls_len {fp : Nat → Option Tg} {u : H} {b : Nat} {T : Tr} (h : TrAt fp u b T) : T.sl.n = T.ls.length := flat_n encSL_len (by decide) h.larr.seg
theorem TrAt.vcs {fp : Nat → Option Tg} {u : H} {b : Nat} {T : Tr} (h : TrAt fp u b T) : VcsAt u T.sc T.cs := ⟨h.carr, fun c hc => by
  obtain ⟨i, hi, rfl⟩ := List.getElem_of_mem hc
  exact (h.cvec i _ (List.getElem?_eq_getElem hi)).1⟩
theorem TOk.csok {T : Tr} (h : TOk T) : CsOk T.cs T.dim := ⟨h.dm, h.many.2, h.cvok⟩

def getW (w : List (Int × Nat)) (x : Int) : Option Nat := (w.find? fun p => p.1 == x).map (·.2)

theorem getL_where (w : List (Int × Nat)) (x : Int) : getL (whereL w) x = (getW w x).map fun i => .int .i64 i := by
  unfold getL getW whereL
  induction w with
  | nil => rfl
  | cons p w ih =>
    simp only [List.map_cons, List.find?_cons]
    by_cases e : p.1 = x
    · simp [e]
    · have e2 : (p.1 == x) = false := by simpa using e
      simp only [e2]
      exact ih

theorem getW_mem {w : List (Int × Nat)} {x : Int} {i : Nat} (h : getW w x = some i) : (x, i) ∈ w := by
  unfold getW at h
  obtain ⟨p, hp, rfl⟩ := Option.map_eq_some_iff.1 h
  have h1 := List.mem_of_find?_eq_some hp
  have h2 := List.find?_some hp
  have : p.1 = x := by simpa using h2
  rw [← this]
  exact h1

theorem getW_none {w : List (Int × Nat)} {x : Int} : getW w x = none ↔ x ∉ w.map (·.1) := by
  unfold getW
  simp only [Option.map_eq_none_iff, List.find?_eq_none, List.mem_map, not_exists, not_and]
  constructor
  · intro h p hp e
    exact h p hp (by simp [e])
  · intro h p hp e
    exact h p hp (by simpa using e)

theorem seg_nil_full {u : H} {s : Sl} {k : Nat} {xs : List Value} (h : Seg u s k xs) (hf : s.n = s.c) (hk : 0 < k) : s = ⟨none, 0, 0⟩ ∨ s.a ≠ none := by
  rcases h.at' with h1 | ⟨p, hp, _⟩
  · have hl := h.len
    rw [h1] at hl
    simp only [List.length_nil] at hl
    rcases Nat.mul_eq_zero.1 hl.symm with h2 | h2
    · cases s with
      | mk a n c =>
        simp only at hf h2
        subst h2
        subst hf
        cases a with
        | none => exact .inl rfl
        | some p => exact .inr (by simp)
    · omega
  · exact .inr (by rw [hp]; simp)

/-- A row more in a list. -/
theorem ls_push {u : H} {s : Sl} {l : List Rw} {id : Int} {sv : Sl} {v : List Int} {K : Sl → H → Prop} (h : LsAt u s l) (hl : l.length < 1000000)
    (hK : ∀ s' u', Own u' 43 2 s' ((l ++ [(⟨id, sv, v⟩ : Rw)]).flatMap encR) → Else u u' s → (∀ g, s'.blk = some g → s.blk = some g ∨ u g = none) → K s' u') :
    SemT Tryz.prog (Instr.buildSlice 22 1 #[(0, .agg #[.int .i64 id, .slice sv.a sv.n sv.c])]) [.one .slice] u fun s1 u1 => u.le u1 ∧ SemT Tryz.prog (Builtin.append_ #[22, 22] 22 #[.slice s.a s.n s.c, .slice s1.a s1.n s1.c]) [.one .slice] u1 K := by
  have hsn : s.n = l.length := flat_n encR_len (by decide) h.seg
  have ef : l.flatMap encR ++ [.int .i64 id, .slice sv.a sv.n sv.c] = (l ++ [(⟨id, sv, v⟩ : Rw)]).flatMap encR := by simp [encR]
  rcases h.own with ho | hf
  · refine sem_push tRows (build_row1 id sv) (by decide) rfl (by simp [Value.oneCell']) ho.f (by omega) (by omega) fun s' u' ho' _ he hb _ => hK s' u' ?_ he hb
    rw [← ef]
    exact ho'.own
  · refine sem_build (build_row1 id sv) fun g hg => ⟨H.le_ins _ hg, ?_⟩
    have hle := H.le_ins (u := u) (b := g) (.cells [Value.int .i64 id, .slice sv.a sv.n sv.c].toArray 43 (0, 0)) hg
    have hx : Seg (u.ins g (.cells [Value.int .i64 id, .slice sv.a sv.n sv.c].toArray 43 (0, 0))) ⟨some ⟨g, 0, none⟩, 1, 1⟩ 2 [Value.int .i64 id, .slice sv.a sv.n sv.c] := by
      have := (OwnF.make (k := 2) (H.le.refl u) hg (cells := [Value.int .i64 id, .slice sv.a sv.n sv.c].toArray) (e := 43) (n := 1) (by omega) (by simp)).own.seg
      simpa using this
    refine sem_append_new tRows (h.seg.mono hle) hx (by simp only; omega) (seg_nil_full h.seg hf (by decide)) (by simp) (by simp only; omega) (by simp only; omega) fun g2 c cur hg2 ho2 => hK _ _ (by rw [← ef]; exact ho2) (fun b o hb _ => ?_) fun g3 hg3 => ?_
    · have h1 := hle b o hb
      rw [H.ins_other _ _ (fun e => by rw [e, hg2] at h1; cases h1)]
      exact h1
    · have : g3 = g2 := by simpa [Sl.blk] using hg3.symm
      rw [this]
      exact .inr (hle.none hg2)

/-- A list and where its rows are have turned; nothing else. -/
theorem TrAt.relist {fp fp' : Nat → Option Tg} {u u' : H} {b : Nat} {T : Tr} (h : TrAt fp u b T) {i : Nat} {s' : Sl} {l' : List Rw} {w' : List (Int × Nat)} (hl : LsAt u' s' l') (htag : ∀ g, s'.blk = some g → fp' g = some (.list i))
    (hrows : ∀ r ∈ l', Ints u' r.s r.v ∧ ∀ g, r.s.blk = some g → fp' g = some .vec) (hla : Own u' 22 1 T.sl ((T.ls.set i (s', l')).flatMap fun l => encS l.1)) (hm : MapAt u' T.m (whereL w'))
    (hu : ∀ c o, u c = some o → fp c ≠ none → fp c ≠ some .larr → fp c ≠ some (.list i) → fp c ≠ some .map → u' c = some o) (hf : ∀ c, fp c ≠ none → fp c ≠ some (.list i) → fp' c = fp c) : TrAt fp' u' b { T with ls := T.ls.set i (s', l'), w := w' } where
  cell := hu _ _ h.cell (by rw [h.btag]; simp) (by rw [h.btag]; simp) (by rw [h.btag]; simp) (by rw [h.btag]; simp)
  btag := by rw [hf _ (by rw [h.btag]; simp) (by rw [h.btag]; simp)]; exact h.btag
  carr := Seg.else h.carr fun g o hg ho => hu g o ho (by rw [h.cblk g hg]; simp) (by rw [h.cblk g hg]; simp) (by rw [h.cblk g hg]; simp) (by rw [h.cblk g hg]; simp)
  cblk g hg := by rw [hf _ (by rw [h.cblk g hg]; simp) (by rw [h.cblk g hg]; simp)]; exact h.cblk g hg
  cvec j c hc := by
    obtain ⟨h1, h2⟩ := h.cvec j c hc
    exact ⟨Seg.else h1 fun g o hg ho => hu g o ho (by rw [h2 g hg]; simp) (by rw [h2 g hg]; simp) (by rw [h2 g hg]; simp) (by rw [h2 g hg]; simp), fun g hg => by rw [hf _ (by rw [h2 g hg]; simp) (by rw [h2 g hg]; simp)]; exact h2 g hg⟩
  larr := hla
  lblk g hg := by rw [hf _ (by rw [h.lblk g hg]; simp) (by rw [h.lblk g hg]; simp)]; exact h.lblk g hg
  list j l hj := by
    by_cases e : j = i
    · subst e
      have : l = (s', l') := by
        rw [List.getElem?_set] at hj
        split at hj
        · split at hj
          · exact (Option.some.inj hj).symm
          · cases hj
        · rename_i hne; exact absurd rfl hne
      subst this
      exact ⟨hl, htag, hrows⟩
    · rw [List.getElem?_set_ne (Ne.symm e)] at hj
      obtain ⟨h1, h2, h3⟩ := h.list j l hj
      refine ⟨h1.keep fun g o hg ho => hu g o ho (by rw [h2 g hg]; simp) (by rw [h2 g hg]; simp) (by rw [h2 g hg]; simpa using e) (by rw [h2 g hg]; simp), fun g hg => by rw [hf _ (by rw [h2 g hg]; simp) (by rw [h2 g hg]; simpa using e)]; exact h2 g hg, fun r hr => ?_⟩
      obtain ⟨h4, h5⟩ := h3 r hr
      exact ⟨Seg.else h4 fun g o hg ho => hu g o ho (by rw [h5 g hg]; simp) (by rw [h5 g hg]; simp) (by rw [h5 g hg]; simp) (by rw [h5 g hg]; simp), fun g hg => by rw [hf _ (by rw [h5 g hg]; simp) (by rw [h5 g hg]; simp)]; exact h5 g hg⟩
  map := hm
  mtag := by rw [hf _ (by rw [h.mtag]; simp) (by rw [h.mtag]; simp)]; exact h.mtag

theorem set_push_perm {ls : List (Sl × List Rw)} {i : Nat} {l : Sl × List Rw} (h : ls[i]? = some l) (s' : Sl) (r : Rw) : ((ls.set i (s', l.2 ++ [r])).flatMap (·.2)).Perm (r :: ls.flatMap (·.2)) := by
  induction ls generalizing i with
  | nil => simp at h
  | cons x ls ih =>
    cases i with
    | zero =>
      simp only [List.getElem?_cons_zero, Option.some.injEq] at h
      subst h
      rw [List.set_cons_zero, List.flatMap_cons, List.flatMap_cons, List.append_assoc]
      exact List.perm_middle
    | succ i =>
      simp only [List.getElem?_cons_succ] at h
      rw [List.set_cons_succ, List.flatMap_cons, List.flatMap_cons]
      exact ((ih h).append_left _).trans List.perm_middle

end Go.Proofs.YtljbcihbgeiacaaGreat.Iv

/- VcIv3 -/
namespace Go.Proofs.YtljbcihbgeiacaaGreat.Iv

/-- What a row's laying leaves. -/
structure LayRes (u0 u : H) (fp : Nat → Option Tg) (b : Nat) (T : Tr) (id : Int) (v : List Int) (u' : H) (fp' : Nat → Option Tg) (T' : Tr) : Prop where
  is : In u0 u' fp' b T'
  turn : TurnG u fp u' fp'
  ok : TOk T'
  rows : (ixRows T').Perm ((id, v) :: ixRows T)
  dim : T'.dim = T.dim
  cs : T'.cs = T.cs
  wlen : T'.w.length = T.w.length + 1
  w : ∀ x, x ∈ T'.w.map (·.1) ↔ x ∈ T.w.map (·.1) ∨ x = id
  tags : ∀ c, fp c = some .vec → fp' c = some .vec
  vecs : ∀ c o, u c = some o → fp c = some .vec → u' c = some o

theorem spec.lay {u0 u : H} {fp : Nat → Option Tg} {b : Nat} {T : Tr} {id : Int} {s : Sl} {v : List Int} {K : H → Prop} (h : In u0 u fp b T) (hT : TOk T) (hid : id ∉ T.w.map (·.1)) (hi : 1 ≤ id ∧ id ≤ 1000000000) (hv : Ints u s v)
    (hs : ∀ g, s.blk = some g → fp g = some .vec) (hok : (v.length : Int) = T.dim ∧ vok v) (hlen : T.w.length < 512) (hK : ∀ u' fp' T', LayRes u0 u fp b T id v u' fp' T' → K u') : C.ivf_Tree__lay (some ⟨b, 0, none⟩) id s u K := by
  obtain ⟨c0, c1, c2, c3⟩ := tree_cells h.tr
  have hcs := hT.csok
  obtain ⟨k, hk⟩ : ∃ k, (nearTo (T.cs.map (·.2)) v T.cs.length).1 = k := ⟨_, rfl⟩
  have hkl : k < T.cs.length := by rw [← hk]; exact nearTo_lt _ _ _ hT.many.2.1
  have hkl2 : k < T.ls.length := by rw [← hT.many.1]; exact hkl
  have hlsn := h.tr.ls_len
  apply vc.ivf_Tree__lay
  intro K0 h0
  refine ⟨u, H.le.refl u, _, rfl, _, c1, ?_⟩
  have main : K0 (k : Int) u := by
    refine h0 _ _ fun K3 h3 => ?_
    obtain ⟨l, hl⟩ : ∃ l, T.ls[k]? = some l := ⟨_, List.getElem?_eq_getElem hkl2⟩
    obtain ⟨hL, hLtag, hLrows⟩ := h.tr.list k l hl
    obtain ⟨p, hp, hc⟩ := Seg.elem encSL_len (by decide) h.tr.larr.seg hl
    have hcl := hc 0 _ rfl
    rw [Addr.add_zero'] at hcl
    have nl : ∀ {c t}, fp c = some t → t ≠ .list k → l.1.blk ≠ some c := fun hc ht e => ht (by have := hLtag _ e; rw [hc] at this; exact Option.some.inj this)
    have hbne : l.1.blk ≠ some b := nl h.tr.btag (by simp)
    have hpb : ∃ g cur, T.sl.a = some ⟨g, 0, none⟩ ∧ u g = some (.cells cur 22 (0, 0)) ∧ T.sl.blk = some g := by
      rcases h.tr.larr.is with h1 | ⟨g, cur, h1, h2, _⟩
      · rw [h1] at hp; cases hp
      · exact ⟨g, cur, h1, h2, by simp [Sl.blk, h1]⟩
    obtain ⟨g, cur, hga, hgu, hgb⟩ := hpb
    have hgt := h.tr.lblk g hgb
    have hgne : l.1.blk ≠ some g := nl hgt (by simp)
    obtain rfl : p = ⟨g, 0, none⟩ := by rw [hga] at hp; exact (Option.some.inj hp).symm
    -- cells that are read before the row is appended
    have cellS : ∀ {a : Addr} {x : Value}, u.cell? a = some x → l.1.blk ≠ some a.block → (H.sans u l.1).cell? a = some x := fun {a x} hx hne => by
      unfold H.cell? at hx ⊢
      rw [sans_at hne]; exact hx
    refine ⟨H.sans u l.1, sans_le _ _, _, rfl, _, rfl, T.sl, cellS c2 hbne, T.sl, cellS c2 hbne, _, hp, ⟨by omega, by omega⟩, l.1, ?_, ?_⟩
    · rw [Int.toNat_natCast]
      refine cellS hcl ?_
      rw [Addr.add_lit]
      exact hgne
    have hLl : l.2.length < 1000000 := by
      have h1 := (sub_sum (f := fun l : Sl × List Rw => l.2) (List.mem_of_getElem? hl)).length_le
      rw [← hT.wlen] at h1
      omega
    refine SemT.slice_mono (ls_push (v := v) hL hLl (K := fun s18 u19 => (H.sans u l.1).le u19 ∧ ∃ r20 : Addr, T.sl.a = some r20 ∧ ((0 : Int) ≤ (k : Int) ∧ (k : Int) < (T.sl.n : Int)) ∧ H.St u19 (r20.add ((k : Int).toNat * 1)) [.slice s18.a s18.n s18.c] fun u21 => K3 u21) ?_) fun s1 v1 hx => ⟨(sans_le _ _).trans hx.1, hx.2⟩
    intro s' u1 ho he hb
    refine ⟨fun c o hc => he c o (sans_of hc).1 (sans_of hc).2, _, hp, ⟨by omega, by omega⟩, ?_⟩
    have hla1 : Own u1 22 1 T.sl (T.ls.flatMap fun l => encS l.1) := h.tr.larr.le fun c o hc hu => he c o hu fun e => nl (h.tr.lblk c hc) (by simp) e
    rw [Int.toNat_natCast]
    have hs'g : s'.blk ≠ some g := fun e => by
      rcases hb g e with h1 | h1
      · exact hgne h1
      · rw [hgu] at h1; cases h1
    refine OwnF.store (enc := fun l : Sl × List Rw => encS l.1) encSL_len hla1.f (by decide) (i := k) hkl2 (y := (s', l.2 ++ [⟨id, s, v⟩])) (by simp [encS, Value.oneCell']) hga fun u2 ho2 he2 hn2 => h3 _ ?_
    have e12 : ∀ c o, u c = some o → fp c ≠ some .larr → fp c ≠ some (.list k) → u2 c = some o := fun c o hc h1 h2 => by
      refine he2 c o (he c o hc fun e => h2 (hLtag c e)) fun e => h1 (h.tr.lblk c e)
    have cm : u2 b = some (.cells (treeC T).toArray 98 (0, 0)) := e12 b _ h.tr.cell (by rw [h.tr.btag]; simp) (by rw [h.tr.btag]; simp)
    have hmap2 : MapAt u2 T.m (whereL T.w) := h.tr.map.else fun o ho => e12 _ o ho (by rw [h.tr.mtag]; simp) (by rw [h.tr.mtag]; simp)
    refine ⟨u2, H.le.refl _, _, rfl, _, H.cell?_of cm 3, sem_put whTy hmap2 (by rw [getL_where, getW_none.2 hid]; rfl) fun o hm => ?_⟩
    have hmN : ∀ c, fp c ≠ some .map → c ≠ T.m := fun c hc e => hc (by rw [e]; exact h.tr.mtag)
    have e3 : ∀ c x, u c = some x → fp c ≠ some .larr → fp c ≠ some (.list k) → fp c ≠ some .map → (u2.ins T.m o) c = some x := fun c x hc h1 h2 h3 => by
      rw [H.ins_other _ _ (hmN c h3)]; exact e12 c x hc h1 h2
    have s'm : s'.blk ≠ some T.m := fun e => by
      rcases hb _ e with h1 | h1
      · exact nl h.tr.mtag (by simp) h1
      · exact h.known T.m (by rw [h.tr.mtag]; simp) h1
    have hown' : Own (u2.ins T.m o) 43 2 s' ((l.2 ++ [(⟨id, s, v⟩ : Rw)]).flatMap encR) := ho.le fun c x hc hx => by
      rw [H.ins_other _ _ (fun e => s'm (by rw [hc, e]))]
      exact he2 c x hx fun e => by
        have : c = g := by rw [hgb] at e; exact (Option.some.inj e).symm
        exact hs'g (by rw [hc, this])
    -- its blocks
    have hnew : ∀ c, s'.blk = some c → fp c = some (.list k) ∨ u c = none := fun c hc => (hb c hc).imp (hLtag c) fun h => h
    let fp' : Nat → Option Tg := fun c => open Classical in if s'.blk = some c then some (.list k) else if l.1.blk = some c then none else fp c
    have f2 : ∀ c, s'.blk = some c → fp' c = some (.list k) := fun c hc => if_pos hc
    have f1 : ∀ c, fp c ≠ none → fp c ≠ some (.list k) → fp' c = fp c := fun c hc h2 => by
      have h1 : s'.blk ≠ some c := fun e => by
        rcases hnew c e with h1 | h1
        · exact h2 h1
        · exact hc (h.fresh h1)
      show (if s'.blk = some c then _ else _) = _
      rw [if_neg h1, if_neg fun e => h2 (hLtag c e)]
    have f3 : ∀ c, fp' c ≠ none → (s'.blk = some c ∧ (fp c ≠ none ∨ u c = none)) ∨ (s'.blk ≠ some c ∧ l.1.blk ≠ some c ∧ fp c ≠ none) := fun c hc => by
      by_cases e : s'.blk = some c
      · exact .inl ⟨e, (hnew c e).imp (fun h1 => by rw [h1]; simp) fun h1 => h1⟩
      · by_cases e2 : l.1.blk = some c
        · have : fp' c = none := by
            show (if s'.blk = some c then _ else _) = _
            rw [if_neg e, if_pos e2]
          exact absurd this hc
        · have : fp' c = fp c := by
            show (if s'.blk = some c then _ else _) = _
            rw [if_neg e, if_neg e2]
          rw [this] at hc
          exact .inr ⟨e, e2, hc⟩
    have rowsAt : ∀ r ∈ l.2 ++ [(⟨id, s, v⟩ : Rw)], Ints (u2.ins T.m o) r.s r.v ∧ ∀ c, r.s.blk = some c → fp' c = some .vec := by
      intro r hr
      have both : Ints u r.s r.v ∧ ∀ c, r.s.blk = some c → fp c = some .vec := by
        rcases List.mem_append.1 hr with h1 | h1
        · exact hLrows r h1
        · rw [List.mem_singleton.1 h1]; exact ⟨hv, hs⟩
      exact ⟨Seg.else both.1 fun c x hc hx => e3 c x hx (by rw [both.2 c hc]; simp) (by rw [both.2 c hc]; simp) (by rw [both.2 c hc]; simp), fun c hc => by rw [f1 c (by rw [both.2 c hc]; simp) (by rw [both.2 c hc]; simp)]; exact both.2 c hc⟩
    have hm' : MapAt (u2.ins T.m o) T.m (whereL (T.w ++ [(id, k)])) := by
      have : whereL (T.w ++ [(id, k)]) = whereL T.w ++ [(id, .int .i64 (k : Int))] := by simp [whereL]
      rw [this]; exact hm
    have hla2 : Own (u2.ins T.m o) 22 1 T.sl ((T.ls.set k (s', l.2 ++ [(⟨id, s, v⟩ : Rw)])).flatMap fun l => encS l.1) := ho2.own.le fun c x hc hx => by
      rw [H.ins_other _ _ (fun e => by have := h.tr.lblk c hc; rw [e, h.tr.mtag] at this; cases this)]
      exact hx
    have hTr := h.tr.relist (i := k) (w' := T.w ++ [(id, k)]) ⟨hown'.seg, .inl hown'⟩ f2 rowsAt hla2 hm' (fun c x hc _ h2 h3 h4 => e3 c x hc h2 h3 h4) f1
    have u0le : u0.le (u2.ins T.m o) := fun c x hc => by
      have hu := h.le c x hc
      have hf : fp c = none := by
        cases e : fp c with
        | none => rfl
        | some t => have := h.out c (by rw [e]; simp); rw [hc] at this; cases this
      exact e3 c x hu (by rw [hf]; simp) (by rw [hf]; simp) (by rw [hf]; simp)
    have hperm := set_push_perm hl s' (⟨id, s, v⟩ : Rw)
    have hidn : id ∉ (T.ls.flatMap (·.2)).map (·.id) := fun hm => by
      obtain ⟨r, hr, e⟩ := List.mem_map.1 hm
      obtain ⟨y, hy, hry⟩ := List.mem_flatMap.1 hr
      obtain ⟨j, hj, rfl⟩ := List.getElem_of_mem hy
      have := (hT.wh id j).2 ⟨_, List.getElem?_eq_getElem hj, List.mem_map.2 ⟨r, hry, e⟩⟩
      exact hid (List.mem_map.2 ⟨_, this, rfl⟩)
    have each : ∀ {i : Nat} {y : Sl × List Rw}, (T.ls.set k (s', l.2 ++ [(⟨id, s, v⟩ : Rw)]))[i]? = some y → (i = k ∧ y = (s', l.2 ++ [⟨id, s, v⟩])) ∨ (i ≠ k ∧ T.ls[i]? = some y) := fun {i y} hy => by
      by_cases e : i = k
      · subst e
        rw [List.getElem?_set_self (by omega)] at hy
        exact .inl ⟨rfl, (Option.some.inj hy).symm⟩
      · rw [List.getElem?_set_ne (Ne.symm e)] at hy
        exact .inr ⟨e, hy⟩
    have memS : ∀ y ∈ T.ls.set k (s', l.2 ++ [(⟨id, s, v⟩ : Rw)]), ∀ r ∈ y.2, r = ⟨id, s, v⟩ ∨ ∃ z ∈ T.ls, r ∈ z.2 := fun y hy r hr => by
      have : r ∈ (⟨id, s, v⟩ : Rw) :: T.ls.flatMap (·.2) := hperm.mem_iff.1 (List.mem_flatMap.2 ⟨y, hy, hr⟩)
      rcases List.mem_cons.1 this with h1 | h1
      · exact .inl h1
      · obtain ⟨z, hz, hrz⟩ := List.mem_flatMap.1 h1
        exact .inr ⟨z, hz, hrz⟩
    refine hK _ fp' { T with ls := T.ls.set k (s', l.2 ++ [⟨id, s, v⟩]), w := T.w ++ [(id, k)] } ⟨⟨hTr, u0le, fun c hc => ?_, fun c hc => ?_⟩, ⟨fun c x hc hf => e3 c x hc (by rw [hf]; simp) (by rw [hf]; simp) (by rw [hf]; simp), fun c hc => ?_⟩, ?_, ?_, rfl, rfl, by simp, fun x => by simp [List.map_append], fun c hc => by rw [f1 c (by rw [hc]; simp) (by rw [hc]; simp)]; exact hc, fun c o ho hc => e3 c o ho (by rw [hc]; simp) (by rw [hc]; simp) (by rw [hc]; simp)⟩
    · rcases f3 c hc with ⟨_, h1 | h1⟩ | ⟨_, _, h1⟩
      · exact h.out c h1
      · exact h.le.none h1
      · exact h.out c h1
    · rcases f3 c hc with ⟨h1, _⟩ | ⟨_, h2, h1⟩
      · exact own_known hown'.f h1
      · by_cases e : c = T.m
        · rw [e, H.ins_same]; simp
        · by_cases e2 : T.sl.blk = some c
          · exact own_known hla2.f e2
          · obtain ⟨x, hx⟩ := Option.ne_none_iff_exists'.1 (h.known c h1)
            rw [H.ins_other _ _ e, he2 c x (he c x hx h2) e2]
            simp
    · rcases f3 c hc with ⟨_, h1⟩ | ⟨_, _, h1⟩
      · exact h1
      · exact .inl h1
    · have hnr : (nearTo (T.cs.map (·.2)) (⟨id, s, v⟩ : Rw).v T.cs.length).1 = k := hk
      refine ⟨hT.dm, ⟨by simp [hT.many.1], hT.many.2⟩, hT.cvok, fun y hy r hr => ?_, fun y hy r hr => ?_, ?_, fun i j => ?_, ?_, by simp; omega, fun i y hy r hr => ?_⟩
      · rcases memS y hy r hr with rfl | ⟨z, hz, hrz⟩
        · exact hok
        · exact hT.vec z hz r hrz
      · rcases memS y hy r hr with rfl | ⟨z, hz, hrz⟩
        · exact hi
        · exact hT.ids z hz r hrz
      · rw [(hperm.map _).nodup_iff, List.map_cons, List.nodup_cons]
        exact ⟨hidn, hT.nodup⟩
      · simp only [List.mem_append, List.mem_singleton, Prod.mk.injEq]
        constructor
        · rintro (h1 | ⟨rfl, rfl⟩)
          · obtain ⟨y, hy, hm⟩ := (hT.wh i j).1 h1
            by_cases e : j = k
            · subst e
              rw [hl] at hy; cases hy
              exact ⟨_, List.getElem?_set_self (by omega), by rw [List.map_append]; exact List.mem_append_left _ hm⟩
            · exact ⟨y, by rw [List.getElem?_set_ne (Ne.symm e)]; exact hy, hm⟩
          · exact ⟨_, List.getElem?_set_self (by omega), by simp⟩
        · rintro ⟨y, hy, hm⟩
          rcases each hy with ⟨rfl, rfl⟩ | ⟨hne, hy⟩
          · rw [List.map_append] at hm
            rcases List.mem_append.1 hm with h1 | h1
            · exact .inl ((hT.wh i j).2 ⟨l, hl, h1⟩)
            · exact .inr ⟨by simpa using h1, rfl⟩
          · exact .inl ((hT.wh i j).2 ⟨y, hy, hm⟩)
      · have := hperm.length_eq
        rw [List.length_cons, ← hT.wlen] at this
        show (T.w ++ [(id, k)]).length = _
        rw [this]; simp
      · rcases each hy with ⟨rfl, rfl⟩ | ⟨hne, hy⟩
        · rcases List.mem_append.1 hr with h1 | h1
          · exact hT.near i l hl r h1
          · rw [List.mem_singleton.1 h1]; exact hnr
        · exact hT.near i y hy r hr
    · exact hperm.map Rw.pr
  exact ⟨spec.kmeans_Near h.tr.vcs hcs hv hok.2 hok.1 ⟨H.le.refl u, by rw [hk]; exact main⟩, H.le.refl u, spec.kmeans_Near h.tr.vcs hcs hv hok.2 hok.1 (by rw [hk]; exact main)⟩

end Go.Proofs.YtljbcihbgeiacaaGreat.Iv
