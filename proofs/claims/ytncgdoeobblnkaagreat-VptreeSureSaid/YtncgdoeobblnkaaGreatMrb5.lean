/- Texts of mine, joined by merge.py: VcSort, VcTopk, VcTopk2, VcRange, VcFlat, VcFlat2, VcBox, VcSearch, VcLawA, VcOpen, VcMul, VcMul2, VcLend, VcIntsPure, VcPure2, VcLawE. -/
import Derived.Test.YtncgdoeobblnkaaGreatMrb4
import Derived.Shelf.SlSortCmp.WholeK
import Derived.Shelf.SlSortCmp.NoneTotal
import Derived.Shelf.SortG.Plain
import Derived.Shelf.SortG.SortNone
import Derived.RangeFuncIn
import Derived.OrdersIn
import Derived.SizedLaws
import Derived.Deep.Slices
import Derived.ChangeSame
import Derived.ChangeOld
import Derived.OpenShut
import Derived.ProofKit
import Derived.WalkKit
import Derived.JoinedOf
import Derived.Laws.IdiomCopy
set_option maxRecDepth 100000

/- VcSort -/
namespace Go.Proofs.YtncgdoeobblnkaaGreat
open Go.Shelf Go.RowKit Go.Sort

theorem Step.grow_eq {W w' : World} (h : Step (fun b => W.heap[b]?) [] W (fun b => W.heap[b]?) [] w') : ∃ q os', w' = grow (W.drewN q) os' := by
  refine ⟨w'.drawn - W.drawn, w'.heap.extract W.heap.size w'.heap.size, ?_⟩
  have hd := h.drawn
  have hs := h.size
  have hh : w'.heap = W.heap ++ w'.heap.extract W.heap.size w'.heap.size := by
    apply Array.ext
    · simp; omega
    · intro i h1 h2
      rcases Nat.lt_or_ge i W.heap.size with hi | hi
      · rw [Array.getElem_append_left hi]
        have := h.sub i W.heap[i] (by simp [hi])
        rw [Array.getElem?_eq_getElem h1] at this
        exact Option.some.inj this
      · rw [Array.getElem_append_right hi]
        simp only [Array.getElem_extract]
        congr 1
        omega
  have e1 := h.os
  have e2 := h.tape
  have e3 := h.output
  cases w'; cases W
  simp only [grow, World.drewN] at *
  simp only [World.mk.injEq]
  refine ⟨hh, e2, by omega, e1, e3⟩

/-- A call that leaves all as it was, in the shelf's words. -/
theorem grown_of_pure {P : Program} {f : FuncId} {args : Array Value} {z : Int} (h : ∀ u : H, ClT P f args [.one (.int .i64)] u fun z' u' => z' = z ∧ u' = u) (W : World) :
    Calls P f args W fun e w' => e = .returned (.int .i64 z) ∧ ∃ q os', w' = grow (W.drewN q) os' := by
  refine (h (fun b => W.heap[b]?) W (fun b o e => e)).mono ?_
  rintro e w' ⟨v, u', rfl, ⟨vs, hk, rfl, hc⟩, hs⟩
  cases hk with
  | cons x hr =>
    cases hr
    have hc2 := (CT.un_enc (.int .i64) x _).1 hc
    obtain ⟨hx, hu⟩ : x = z ∧ u' = _ := hc2
    subst hx; subst hu
    exact ⟨rfl, hs.grow_eq⟩

def cmpH (a b : Hit) : Int := if hlt a b then -1 else if hlt b a then 1 else 0

theorem swo_hlt (cf : Hit → Hit → Int) (h : ∀ a b, cf a b < 0 ↔ hlt a b = true) : SWO (ltOf cf) where
  irrefl x := by unfold ltOf; simp [h, hlt_irrefl]
  trans x y z h1 h2 := by unfold ltOf at *; simp only [decide_eq_true_eq, h] at *; exact hlt_lt_trans h1 h2
  ntrans x y z h1 h2 := by
    unfold ltOf at *
    simp only [decide_eq_false_iff_not, h, Bool.not_eq_true] at *
    exact hlt_le_trans h2 h1

instance : Inhabited Hit := ⟨(0, 0)⟩

theorem flatK_hits (d : Array Hit) : (flatK encH 3 d).toList = d.toList.flatMap encH := by
  apply List.ext_getElem?
  intro i
  rcases Nat.lt_or_ge i (d.size * 3) with hi | hi
  · have e : i = i / 3 * 3 + i % 3 := by omega
    have hd : i / 3 < d.size := by omega
    have hr : i % 3 < 3 := Nat.mod_lt _ (by decide)
    have hf := flat_get encH_len d.toList (i / 3) (i % 3) hr
    rw [← e] at hf
    rw [hf]
    have : (flatK encH 3 d).toList[i]? = some ((flatK encH 3 d)[i]!) := by
      rw [Array.getElem?_toList, getElem!_pos _ i (by simpa using hi), Array.getElem?_eq_getElem (by simpa using hi)]
    rw [this, get_flatK _ _ _ _ hi]
    simp [hd]
    have h2 : i % 3 < (encH d[i / 3]).length := by rw [encH_len]; exact hr
    rw [List.getElem?_eq_getElem h2]
    rfl
  · rw [List.getElem?_eq_none (by simpa using hi), List.getElem?_eq_none (by rw [flat_len encH_len]; simpa using hi)]

theorem heap_mapBlock {w : World} {g : Nat} {cur : Array Value} {T : TypeId} {fz : Nat × Nat} (f : Array Value → Array Value) (h : w.heap[g]? = some (.cells cur T fz)) :
    (mapBlock w g f).heap[g]? = some (.cells (f cur) T fz) ∧ ∀ b, b ≠ g → (mapBlock w g f).heap[b]? = w.heap[b]? := by
  unfold mapBlock
  constructor
  · simp only [Array.getElem?_modify, if_true, h, Option.map_some, onCells]
  · intro b hb
    simp only [Array.getElem?_modify]
    rw [if_neg (Ne.symm hb)]

/-- What the shelf's sorts leave behind. -/
theorem step_sorted {u : H} {w : World} (hw : Sub u w) {g : Nat} {cur : Array Value} {T : TypeId} (hg : u g = some (.cells cur T (0, 0))) (n : Nat) (f : Array Value → Array Value) (os : Array Obj) :
    Step u [] w (u.ins g (.cells (f cur) T (0, 0))) [] (grow (mapBlock (Sort.ahead w n) g f) os) := by
  have hgw : (Sort.ahead w n).heap[g]? = some (.cells cur T (0, 0)) := hw _ _ hg
  obtain ⟨h1, h2⟩ := heap_mapBlock f hgw
  have hsz : (mapBlock (Sort.ahead w n) g f).heap.size = w.heap.size := by simp [mapBlock, Sort.ahead]
  have hgr : ∀ b, b < w.heap.size → (grow (mapBlock (Sort.ahead w n) g f) os).heap[b]? = (mapBlock (Sort.ahead w n) g f).heap[b]? := by
    intro b hb
    show ((mapBlock (Sort.ahead w n) g f).heap ++ os)[b]? = _
    rw [Array.getElem?_append_left (by rw [hsz]; exact hb)]
  refine ⟨fun b o h => ?_, rfl, rfl, rfl, Nat.le_add_right _ _, ?_, fun b hb hbn _ => ?_, fun b hb hbn => ?_, [], by simp, by simp⟩
  · unfold H.ins at h
    split at h
    · rename_i hbg; subst hbg; cases h
      rw [hgr _ (hw.lt hg)]; exact h1
    · rename_i hbg
      rw [hgr _ (hw.lt h), h2 b hbg]; exact hw b o h
  · show w.heap.size ≤ ((mapBlock (Sort.ahead w n) g f).heap ++ os).size
    rw [Array.size_append, hsz]; omega
  · have : b ≠ g := fun h => by rw [h, hg] at hbn; cases hbn
    rw [hgr b hb, h2 b this]; rfl
  · have : b ≠ g := fun h => by rw [h, hg] at hbn; cases hbn
    rw [H.ins_other _ _ this]; exact hbn

theorem putCells_get {F cur : Array Value} (h : F.size ≤ cur.size) : (putCells id 0 F cur).toList.take F.size = F.toList := by
  apply List.ext_getElem?
  intro i
  rw [List.getElem?_take]
  split
  · rename_i hi
    have hc : i < cur.size := by omega
    simp only [putCells, Array.getElem?_toList, Array.getElem?_mapIdx]
    rw [Array.getElem?_eq_getElem hc, Array.getElem?_eq_getElem hi]
    simp only [Option.map_some, Nat.zero_le, true_and, Nat.zero_add, hi, if_true, Nat.sub_zero, id]
    rw [getElem!_pos F i hi]
  · rename_i hi
    rw [List.getElem?_eq_none (by simpa using hi)]

theorem putCells_size {F cur : Array Value} : (putCells id 0 F cur).size = cur.size := by simp [putCells]

theorem OwnF.resort {u0 u : H} {e k : Nat} {s : Sl} {xs : List Value} (h : OwnF u0 u e k s xs) {g : Nat} {cur : Array Value} (ha : s.a = some ⟨g, 0, none⟩) (hg : u g = some (.cells cur e (0, 0))) {F : Array Value} (hF : F.size = s.n * k) :
    OwnF u0 (u.ins g (.cells (putCells id 0 F cur) e (0, 0))) e k s F.toList ∧ Else u (u.ins g (.cells (putCells id 0 F cur) e (0, 0))) s := by
  rcases h.own.is with h0 | ⟨g', cur', ha', hg', hn, hc, hs, ht⟩
  · rw [h0] at ha; cases ha
  · rw [ha] at ha'; cases ha'
    rw [hg] at hg'; cases hg'
    have hle : s.n * k ≤ s.c * k := Nat.mul_le_mul_right _ hn
    have hblk : s.blk = some g := by simp [Sl.blk, ha]
    refine ⟨⟨⟨by simpa using hF, .inr ⟨g, _, ha, H.ins_same _ _ _, hn, hc, by rw [putCells_size]; exact hs, ?_⟩⟩, fun b o hb => ?_, h.fresh⟩, fun b o hb hne => ?_⟩
    · rw [← hF]; exact putCells_get (by rw [hF, hs]; exact hle)
    · have : b ≠ g := fun e => by rw [e, h.fresh g hblk] at hb; cases hb
      rw [H.ins_other _ _ this]; exact h.le b o hb
    · have : b ≠ g := fun e => hne (by rw [hblk, e])
      rw [H.ins_other _ _ this]; exact hb

theorem srt_of {cf : Hit → Hit → Int} (h : ∀ a b, cf a b < 0 ↔ hlt a b = true) {d : Array Hit} (hs : SortedIn (ltOf cf) 0 d.size d) : Srt d.toList := by
  refine List.pairwise_iff_getElem.2 fun i j hi hj hij => ?_
  have := hs i j (Nat.zero_le _) hij (by simpa using hj)
  simp only [Array.length_toList] at hi hj
  rw [getElem!_pos d j hj, getElem!_pos d i hi] at this
  unfold ltOf at this
  simp only [decide_eq_false_iff_not, h, Bool.not_eq_true] at this
  simpa using this

/-- slices.SortFunc, of hits, by whatever comparison that is pure and in their order. -/
theorem spec.slices_SortFunc__api_Hit_ {g : FuncId} {cf : Hit → Hit → Int} (h : ∀ a b, cf a b < 0 ↔ hlt a b = true) (eg : ∀ args w, (callFunc g args).run Tryz.prog w = .ok (.enter g args) w)
    (hcf : ∀ a b (u : H), ClT Tryz.prog g #[.agg (encH a).toArray, .agg (encH b).toArray] [.one (.int .i64)] u fun z' u' => z' = cf a b ∧ u' = u)
    {u0 u : H} {s : Sl} {l : List Hit} (ho : OwnF u0 u 66 3 s (l.flatMap encH)) (hsm : l.length < 4611686018427387904) {K : H → Prop}
    (hK : ∀ u', OwnF u0 u' 66 3 s ((sortH l).flatMap encH) → Else u u' s → K u') : C.slices_SortFunc__api_Hit_ s (.func (.func g) #[] #[]) u K := by
  intro w hw
  have hsn := ho.hts.len
  rcases ho.own.is with h0 | ⟨b, cur, ha, hg, hle, hc, hs, ht⟩
  · subst h0
    have hl : l = [] := by
      have : l.length = 0 := hsn.symm
      exact List.eq_nil_of_length_eq_zero this
    subst hl
    refine (AnyF.slices_SortFunc_none Tryz.sortHits none 0 _ w).mono ?_
    rintro e w' ⟨rfl, rfl⟩
    exact ⟨_, u, rfl, ⟨[], .nil, rfl, hK u ho (Else.refl _ _)⟩, Step.refl hw⟩
  have hH : HoldsK encH 3 w b 0 l.toArray := by
    intro j hj
    simp only [size_flatK, List.size_toArray] at hj
    have hseg := ho.own.seg
    have hl : (l.flatMap encH)[j]? = some ((flatK encH 3 l.toArray)[j]!) := by
      have := flatK_hits l.toArray
      simp only [] at this
      rw [← this, Array.getElem?_toList, getElem!_pos _ j (by simpa using hj), Array.getElem?_eq_getElem (by simpa using hj)]
    constructor
    · rcases hseg.at' with h1 | ⟨p, hp, hcell⟩
      · rw [h1] at hl; simp at hl
      · rw [ha] at hp; cases hp
        have := hw.cell (hcell j _ hl)
        rw [Addr.add_lit, Nat.zero_add] at this
        simpa using this
    · simp [World.frozen?, hw _ _ hg]
  have hcall := AnyQ.slices_SortFunc Tryz.sortHits 3 (fun w => by kernel_rfl) (fun w => by kernel_rfl) encH encH_len (fun x => encH_one x) cf (swo_hlt cf h) g #[] b 0 s.c l.toArray w eg
    (fun m os dk _ x y => by
      have := grown_of_pure (hcf x y) (sortWorldK encH 3 w b 0 m dk os)
      simpa using this) hH (hw.lt hg) (by simpa using hsm)
  simp only [List.size_toArray] at hcall
  change Calls Tryz.prog 98 _ _ _ at hcall
  rw [ha, hsn]
  refine hcall.mono ?_
  rintro e w' ⟨rfl, d', n, os, ⟨hp1, _, hp3⟩, hsrt, rfl⟩
  simp only [List.size_toArray] at hp1
  have hperm : d'.toList.Perm l := by
    have e1 : d'.extract 0 l.length = d' := by rw [← hp1]; simp
    have e2 : l.toArray.extract 0 l.length = l.toArray := by simp
    rw [e1, e2] at hp3
    simpa using hp3
  have hsrt' : Srt d'.toList := srt_of h (by rw [hp1]; exact hsrt)
  have hl : d'.toList = sortH l := sortH_of hperm hsrt'
  obtain ⟨ho', he⟩ := ho.resort ha hg (F := flatK encH 3 d') (by rw [size_flatK, hp1, hsn])
  rw [flatK_hits, hl] at ho'
  exact ⟨_, _, rfl, ⟨[], .nil, rfl, hK _ ho' he⟩, step_sorted hw hg n _ os⟩

/-! ### ints -/

def encI (x : Int) : List Value := [.int .i64 x]
theorem encI_len (x : Int) : (encI x).length = 1 := rfl
theorem encI_one (x : Int) : ∀ v ∈ encI x, v.oneCell' = true := by simp [encI, Value.oneCell']
theorem flatI (l : List Int) : l.flatMap encI = l.map fun x => .int .i64 x := by
  induction l with
  | nil => rfl
  | cons x l ih => simp [encI] at ih ⊢; exact ih

theorem OwnF.ints {u0 u : H} {e : Nat} {s : Sl} {l : List Int} (h : OwnF u0 u e 1 s (l.flatMap encI)) : Ints u s l := by
  have := h.own.seg
  rw [flatI] at this
  exact this

/-- Rising. -/
def sortI (l : List Int) : List Int := l.mergeSort fun x y => decide (x ≤ y)

theorem spec.slices_Sort___int_int_ {u0 u : H} {s : Sl} {l : List Int} (ho : OwnF u0 u 3 1 s (l.flatMap encI)) (hsm : l.length < 4611686018427387904) {K : H → Prop}
    (hK : ∀ u', OwnF u0 u' 3 1 s ((sortI l).flatMap encI) → Else u u' s → K u') : C.slices_Sort___int_int_ s u K := by
  intro w hw
  have hsn := ho.ints.len
  rcases ho.own.is with h0 | ⟨b, cur, ha, hg, hle, hc, hs, ht⟩
  · subst h0
    have hl : l = [] := by
      have : l.length = 0 := hsn.symm
      exact List.eq_nil_of_length_eq_zero this
    subst hl
    refine (AnyG.slices_Sort_int_none Tryz.sortInts none 0 w).mono ?_
    rintro e w' ⟨rfl, rfl⟩
    exact ⟨_, u, rfl, ⟨[], .nil, rfl, hK u (by simpa [sortI] using ho) (Else.refl _ _)⟩, Step.refl hw⟩
  have hH : Holds (Value.int .i64) w b 0 l.toArray := by
    intro j hj
    have hj' : j < l.length := by simpa using hj
    have hl : (l.flatMap encI)[j]? = some (.int .i64 l[j]) := by rw [flatI]; simp [hj']
    constructor
    · rcases ho.own.seg.at' with h1 | ⟨p, hp, hcell⟩
      · rw [h1] at hl; simp at hl
      · rw [ha] at hp; cases hp
        have := hw.cell (hcell j _ hl)
        rw [Addr.add_lit, Nat.zero_add] at this
        rw [getElem!_pos _ j (by simpa using hj')]
        simpa using this
    · simp [World.frozen?, hw _ _ hg]
  have hcall := AnyG.slices_Sort_int Tryz.sortInts b 0 s.c l w hH (hw.lt hg) hsm
  change Calls Tryz.prog 90 _ _ _ at hcall
  rw [ha, hsn]
  refine hcall.mono ?_
  rintro e w' ⟨rfl, n, os, rfl⟩
  have hlen : (sortI l).length = l.length := by simp [sortI]
  have hput : putCells (Value.int .i64) 0 (sortI l).toArray cur = putCells id 0 ((sortI l).map fun x => Value.int .i64 x).toArray cur := by
    unfold putCells
    apply Array.ext
    · simp
    · intro i h1 h2
      simp only [Array.getElem_mapIdx, List.size_toArray, List.length_map, Nat.zero_le, true_and, Nat.zero_add, Nat.sub_zero, id]
      split
      · rename_i hi
        rw [getElem!_pos _ i (by simpa using hi), getElem!_pos _ i (by simpa using hi)]
        simp
      · rfl
  obtain ⟨ho', he⟩ := ho.resort ha hg (F := ((sortI l).map fun x => Value.int .i64 x).toArray) (by simp [hlen, hsn])
  rw [← hput] at ho' he
  simp only [] at ho'
  rw [← flatI] at ho'
  exact ⟨_, _, rfl, ⟨[], .nil, rfl, hK _ ho' he⟩, step_sorted hw hg n _ os⟩

end Go.Proofs.YtncgdoeobblnkaaGreat

/- VcTopk -/
namespace Go.Proofs.YtncgdoeobblnkaaGreat

theorem compare_eq (a b : Hit) (u : H) : ClT Tryz.prog 99 #[.agg (encH a).toArray, .agg (encH b).toArray] [.one (.int .i64)] u fun z' u' => z' = cmpH a b ∧ u' = u := by
  refine spec.topk_compare (a := a) (b := b) (K := fun z' u' => z' = cmpH a b ∧ u' = u) fun z h1 h2 h3 h4 => ⟨?_, rfl⟩
  unfold cmpH
  by_cases ha : hlt a b = true
  · rw [if_pos ha]; have := h1.2 ha; omega
  · rw [if_neg ha]
    by_cases hb : hlt b a = true
    · rw [if_pos hb]; have := h2.2 hb; omega
    · rw [if_neg hb]
      have n1 : ¬ z < 0 := fun h => ha (h1.1 h)
      have n2 : ¬ 0 < z := fun h => hb (h2.1 h)
      omega

theorem cmpH_lt (a b : Hit) : cmpH a b < 0 ↔ hlt a b = true := by
  unfold cmpH
  by_cases ha : hlt a b = true
  · simp [ha]
  · rw [if_neg ha]
    split <;> simp [ha]

/-! ### the heap's methods -/

def methB (P : Program) (t : TypeId) (name : String) (f : FuncId) (ptr : Bool) : Bool :=
  match P.info? t with
  | some i => match i.methods.find? (·.name == name) with
    | some m => match m.path.toList, m.func with
      | [], some (g, b) => Nat.beq g f && (b == ptr)
      | _, _ => false
    | none => false
  | none => false

theorem methB_spec {P : Program} {t : TypeId} {name : String} {f : FuncId} {ptr : Bool} (h : methB P t name f ptr = true) :
    ∃ i m, P.info? t = some i ∧ i.methods.find? (·.name == name) = some m ∧ m.path = #[] ∧ m.func = some (f, ptr) := by
  unfold methB at h
  split at h
  · rename_i i hi
    split at h
    · rename_i m hm
      split at h
      · rename_i g b hp hf
        simp only [Bool.and_eq_true, beq_iff_eq] at h
        refine ⟨i, m, hi, hm, ?_, ?_⟩
        · apply Array.ext'; rw [hp]
        · rw [hf, Nat.eq_of_beq_eq_true h.1, h.2]
      · cases h
    · cases h
  · cases h

theorem mLen : methB Tryz.prog 147 "Len" 210 false = true := by kernel_rfl
theorem mLess : methB Tryz.prog 147 "Less" 211 false = true := by kernel_rfl
theorem mSwap : methB Tryz.prog 147 "Swap" 212 false = true := by kernel_rfl
theorem mPush : methB Tryz.prog 147 "Push" 214 true = true := by kernel_rfl
theorem shHits : shOf Tryz.prog 144 = some (.one .slice) := by kernel_rfl
theorem undHits : Tryz.prog.underlying 147 = some (.pointer 144) := by kernel_rfl
theorem tHeapHits : elemT Tryz.prog 144 = some (66, 3, 24, [.int .i64 0, .int .u64 0, .int .u64 0]) := by kernel_rfl
theorem build_hit' (x y z : Int) : buildOf Tryz.prog 144 1 #[(0, .agg #[.int .i64 x, .int .u64 y, .int .u64 z])] = some (66, [.int .i64 x, .int .u64 y, .int .u64 z]) := by kernel_rfl

theorem fuelOk : ∃ k, Tryz.prog.types.size + Made.depth = k + 1 := by
  have h : 0 < Made.depth := by decide
  generalize Tryz.prog.types.size = a
  exact ⟨a + Made.depth - 1, by omega⟩

/-- A heap of hits in block n, its bound k; u0: what was known ahead of it. -/
structure TopSt (u0 : H) (n : Nat) (k : Int) (u : H) (l : List Hit) : Prop where
  ex : ∃ s : Sl, u n = some (.cells #[.int .i64 k, .slice s.a s.n s.c] 146 (0, 0)) ∧ OwnF u0 u 66 3 s (l.flatMap encH) ∧ s.blk ≠ some n
  out : u0 n = none
  small : l.length ≤ 1000000

/-- The heap as an interface's value. -/
def heapV (n : Nat) : Value := .iface 147 (.pointer (some ((Addr.mk n 0 none).add 1)))

theorem add1 (n : Nat) : (Addr.mk n 0 none).add 1 = ⟨n, 1, none⟩ := by rw [Addr.add_lit]

theorem heap_val {u : H} {n : Nat} {k : Int} {s : Sl} {name : String} {f : FuncId} (hm : methB Tryz.prog 147 name f false = true) (hn : u n = some (.cells #[.int .i64 k, .slice s.a s.n s.c] 146 (0, 0))) (w : World) (hw : Sub u w) :
    (method (Tryz.prog.types.size + Made.depth) 147 (.pointer (some ((Addr.mk n 0 none).add 1))) name).run Tryz.prog w = .ok (f, .slice s.a s.n s.c) w := by
  obtain ⟨i, m, h1, h2, h3, h4⟩ := methB_spec hm
  obtain ⟨k', hk'⟩ := fuelOk
  rw [hk']
  refine run_method_val h1 h2 h3 h4 undHits ?_
  have hc : u.cell? ((Addr.mk n 0 none).add 1) = some (.slice s.a s.n s.c) := by rw [add1]; exact H.cell?_of hn 1
  have hcw := hw.cell hc
  exact loadVar_run shHits ((Addr.mk n 0 none).add 1) (vs := [.slice s.a s.n s.c]) rfl (run_loadCellsFrom_list _ _ _ _ _ rfl (fun j v hj => by
    cases j with
    | zero => simp at hj; subst hj; exact hcw
    | succ j => simp at hj)) (fun c hc => ⟨_, rfl, hcw⟩)

theorem getD_of {l : List Hit} {i : Nat} {x : Hit} (h : l[i]? = some x) : l.getD i default = x := by rw [List.getD_eq_getElem?_getD, h]; rfl

theorem spec.topk_hits__Less {s : Sl} {l : List Hit} {i j : Int} {u : H} {K : Bool → H → Prop} (hs : Hts u s l) (i0 : 0 ≤ i) (i1 : i < l.length) (j0 : 0 ≤ j) (j1 : j < l.length)
    (h : K (hlt (l.getD j.toNat default) (l.getD i.toNat default)) u) : C.topk_hits__Less s i j u K := by
  have hn := hs.len
  apply vc.topk_hits__Less
  obtain ⟨p, hp, x, hx, c0, c1, c2⟩ := hs.at j0 (show j < (s.n : Int) by omega)
  obtain ⟨q, hq, y, hy, d0, d1, d2⟩ := hs.at i0 (show i < (s.n : Int) by omega)
  rw [getD_of hx, getD_of hy] at h
  exact ⟨p, hp, ⟨j0, by omega⟩, q, hq, ⟨i0, by omega⟩, _, c0, _, c1, _, c2, _, d0, _, d1, _, d2, spec.topk_Less h⟩

theorem spec.topk_hits__Swap {u0 u : H} {s : Sl} {l : List Hit} {i j : Int} {K : H → Prop} (ho : OwnF u0 u 66 3 s (l.flatMap encH)) (i0 : 0 ≤ i) (i1 : i < l.length) (j0 : 0 ≤ j) (j1 : j < l.length)
    (h : ∀ u', OwnF u0 u' 66 3 s ((swapL l i.toNat j.toNat).flatMap encH) → Else u u' s → K u') : C.topk_hits__Swap s i j u K := by
  have hs := ho.hts
  have hn := hs.len
  apply vc.topk_hits__Swap
  obtain ⟨p, hp, x, hx, c0, c1, c2⟩ := hs.at j0 (show j < (s.n : Int) by omega)
  obtain ⟨q, hq, y, hy, d0, d1, d2⟩ := hs.at i0 (show i < (s.n : Int) by omega)
  refine ⟨p, hp, ⟨j0, by omega⟩, q, hq, ⟨i0, by omega⟩, _, c0, _, c1, _, c2, _, d0, _, d1, _, d2, q, hq, ⟨i0, by omega⟩, ?_⟩
  refine OwnF.store (enc := encH) encH_len ho (by decide) (i := i.toNat) (by omega) (y := x) (encH_one x) hq fun u1 ho1 he1 _ => ⟨p, hp, ⟨j0, by omega⟩, ?_⟩
  refine OwnF.store (enc := encH) encH_len ho1 (by decide) (i := j.toNat) (by simp; omega) (y := y) (encH_one y) hp fun u2 ho2 he2 _ => h u2 ?_ (fun b o hb hne => he2 b o (he1 b o hb hne) hne)
  have hil : i.toNat < l.length := by omega
  have hjl : j.toNat < l.length := by omega
  have ex : l[j.toNat] = x := by rw [List.getElem?_eq_getElem hjl] at hx; exact Option.some.inj hx
  have ey : l[i.toNat] = y := by rw [List.getElem?_eq_getElem hil] at hy; exact Option.some.inj hy
  rw [swapL_eq hil hjl, ex, ey]
  exact ho2

theorem bodyOf {P : Program} {f : FuncId} (h : hasBody P f = true) : ∃ fn, P.funcs[f]? = some fn ∧ fn.body.isSome = true := hasBody_spec h

theorem bLen : hasBody Tryz.prog 210 = true := by kernel_rfl
theorem bLess : hasBody Tryz.prog 211 = true := by kernel_rfl
theorem bSwap : hasBody Tryz.prog 212 = true := by kernel_rfl
theorem bPush : hasBody Tryz.prog 214 = true := by kernel_rfl

theorem TopSt.set {u0 u u' : H} {n : Nat} {k : Int} {l l' : List Hit} {s : Sl} (h : TopSt u0 n k u l) (hn : u n = some (.cells #[.int .i64 k, .slice s.a s.n s.c] 146 (0, 0))) (hs : s.blk ≠ some n)
    (ho : OwnF u0 u' 66 3 s (l'.flatMap encH)) (he : Else u u' s) (hl : l'.length = l.length) : TopSt u0 n k u' l' :=
  ⟨⟨s, he _ _ hn hs, ho, hs⟩, h.out, by rw [hl]; exact h.small⟩

theorem topHeap (u0 : H) (n : Nat) (k : Int) : HeapI (heapV n) (TopSt u0 n k) (fun a b => hlt b a) where
  len := by
    intro u l K h hK
    obtain ⟨s, hn, ho, _⟩ := h.ex
    refine ⟨_, _, _, _, rfl, fun w hw => heap_val mLen hn w hw, bodyOf bLen, vc.topk_hits__Len s u K ?_⟩
    rw [ho.hts.len]; exact hK
  less := by
    intro u l i j K h i0 i1 j0 j1 hK
    obtain ⟨s, hn, ho, _⟩ := h.ex
    exact ⟨_, _, _, _, rfl, fun w hw => heap_val mLess hn w hw, bodyOf bLess, spec.topk_hits__Less ho.hts i0 i1 j0 j1 hK⟩
  swap := by
    intro u l i j K h i0 i1 j0 j1 hK
    obtain ⟨s, hn, ho, hne⟩ := h.ex
    exact ⟨_, _, _, _, rfl, fun w hw => heap_val mSwap hn w hw, bodyOf bSwap, spec.topk_hits__Swap ho i0 i1 j0 j1 fun u' ho' he => hK u' (h.set hn hne ho' he (swapL_len _ _ _))⟩
  small := fun h => by have := h.small; omega

theorem heapLt : LtOk (fun a b : Hit => hlt b a) where
  asymm := fun _a _b h => hlt_asymm h
  trans := fun _a _b _c h k => hlt_le_trans k h

theorem assertHit (h : Hit) (w : World) : (Instr.typeAssert (.iface 66 (.agg #[.int .i64 h.1, .int .u64 (hiW h.2), .int .u64 (loW h.2)])) 20 66 true).run Tryz.prog w =
    .ok (.tuple #[.agg #[.int .i64 h.1, .int .u64 (hiW h.2), .int .u64 (loW h.2)], .bool true]) w := by kernel_rfl

theorem heap_push {u0 u : H} {n : Nat} {k : Int} {l : List Hit} {x : Hit} {K : H → Prop} (h : TopSt u0 n k u l) (hl : l.length < 1000000) (hK : ∀ u', TopSt u0 n k u' (l ++ [x]) → K u') :
    ClI Tryz.prog (heapV n) "Push" #[.iface 66 (.agg #[.int .i64 x.1, .int .u64 (hiW x.2), .int .u64 (loW x.2)])] [] u K := by
  obtain ⟨s, hn, ho, hne⟩ := h.ex
  obtain ⟨i, m, h1, h2, h3, h4⟩ := methB_spec mPush
  obtain ⟨k', hk'⟩ := fuelOk
  refine ⟨_, _, _, _, rfl, fun w _ => by rw [hk']; exact run_method_ptr h1 h2 h3 h4 undHits, bodyOf bPush, ?_⟩
  refine vc.topk_hits__Push (some ((Addr.mk n 0 none).add 1)) _ u K ?_
  refine SemT.pure [.int .i64 x.1, .int .u64 (hiW x.2), .int .u64 (loW x.2), .bool true] (fun w _ => ?_) (.cons (t := .int .i64) _ (.cons (t := .int .u64) _ (.cons (t := .int .u64) _ (.cons (t := .bool) _ .nil)))) ?_
  · exact assertHit x w
  · refine ⟨fun _ => ⟨_, rfl, s, by rw [add1]; exact H.cell?_of hn 1, ?_⟩, fun hb => by cases hb⟩
    refine sem_push tHeapHits (build_hit' _ _ _) (by decide) rfl (by simp [Value.oneCell']) ho (by have := ho.hts.len; omega) (by have := ho.hts.len; omega) fun s' u' ho' hn' he hblk _ => ⟨_, rfl, ?_⟩
    have hn2 := he _ _ hn hne
    have hne' : s'.blk ≠ some n := fun e => by
      rcases hblk n e with h | h
      · exact hne h
      · rw [hn] at h; cases h
    rw [add1]
    refine ⟨_, _, hn2, rfl, by simp, by simp [Value.oneCell'], hK _ ⟨⟨s', H.ins_same _ _ _, ⟨?_, ?_, ho'.fresh⟩, hne'⟩, h.out, by simp; omega⟩⟩
    · rw [flat_push] at ho'
      exact ho'.own.le fun b o hb hub => by rw [H.ins_other _ _ (fun e => hne' (by rw [hb, e]))]; exact hub
    · intro b o hb
      rw [H.ins_other _ _ (fun e => by rw [e, h.out] at hb; cases hb)]
      exact ho'.le b o hb

end Go.Proofs.YtncgdoeobblnkaaGreat

/- VcTopk2 -/
namespace Go.Proofs.YtncgdoeobblnkaaGreat

theorem sem_clone {P : Program} {t e : TypeId} {size bytes : Nat} {zs : List Value} (hT : elemT P t = some (e, size, bytes, zs)) (hB : buildOf P t 0 #[] = some (e, [])) (hsz : 0 < size) {u : H} {s : Sl} {xs : List Value}
    (hs : Seg u s size xs) (h1 : ∀ y ∈ xs, y.oneCell' = true) (hb : s.n * bytes ≤ 140737488355328) {K : Sl → H → Prop} (hK : ∀ s' u', OwnF u u' e size s' xs → s'.n = s.n → K s' u') :
    SemT P (Instr.buildSlice t 0 #[]) [.one .slice] u fun s0 u1 => SemT P (Builtin.append_ #[t, t] t #[.slice s0.a s0.n s0.c, .slice s.a s.n s.c]) [.one .slice] u1 K := by
  refine sem_build hB fun g hg => ?_
  have h0 := OwnF.make (k := size) (H.le.refl u) hg (cells := #[]) (e := e) (n := 0) (by omega) (by simp)
  have hmx := Nat.le_trans hs.cap hs.max
  refine sem_append hT hsz h0.own (hs.mono (H.le_ins _ hg)) h1 (by simp only [Nat.zero_add]; exact hmx) (by simpa using hb) fun s' u' ho hn hgr _ => hK s' u' ⟨by simpa using ho, hgr.le h0.le h0.fresh, fun g' hg' => hgr.out h0.le h0.fresh g' hg'⟩ (by simpa using hn)

theorem seg_nil {u : H} {s : Sl} {size : Nat} {xs : List Value} (h : Seg u s size xs) (hn : s.a = none) : xs = [] := by
  rcases h.at' with h | ⟨p, hp, _⟩
  · exact h
  · rw [hn] at hp; cases hp

theorem build_hits0 : buildOf Tryz.prog 50 0 #[] = some (66, []) := by kernel_rfl
theorem build_ints0 : buildOf Tryz.prog 41 0 #[] = some (3, []) := by kernel_rfl

theorem spec.slices_Clone__api_Hit_ {s : Sl} {l : List Hit} {u : H} {K : Sl → H → Prop} (hs : Hts u s l) (hb : s.n ≤ 1099511627776) (hK : ∀ s' u', OwnF u u' 66 3 s' (l.flatMap encH) → s'.n = s.n → K s' u') : C.slices_Clone__api_Hit_ s u K := by
  apply vc.slices_Clone__api_Hit_
  refine ⟨fun hn => ?_, fun _ => sem_clone tHits build_hits0 (by decide) hs ?_ (by omega) hK⟩
  · have hl := seg_nil hs hn
    have hl2 : s.n = 0 := by have := Seg.len hs; rw [hl] at this; simp at this; omega
    refine hK _ _ ?_ hl2.symm
    rw [hl]
    exact OwnF.nil (H.le.refl u) _ _
  · intro y hy
    obtain ⟨h, _, hy⟩ := List.mem_flatMap.1 hy
    exact encH_one h y hy

theorem spec.slices_Clone___int_int_ {s : Sl} {l : List Int} {u : H} {K : Sl → H → Prop} (hs : Ints u s l) (hb : s.n ≤ 1099511627776) (hK : ∀ s' u', OwnF u u' 3 1 s' (l.flatMap encI) → s'.n = s.n → K s' u') : C.slices_Clone___int_int_ s u K := by
  have hs' : Seg u s 1 (l.flatMap encI) := by rw [flatI]; exact hs
  apply vc.slices_Clone___int_int_
  refine ⟨fun hn => ?_, fun _ => sem_clone tInts build_ints0 (by decide) hs' ?_ (by omega) hK⟩
  · have hl := seg_nil hs' hn
    have hl2 : s.n = 0 := by have := Seg.len hs'; rw [hl] at this; simp at this; omega
    refine hK _ _ ?_ hl2.symm
    rw [hl]
    exact OwnF.nil (H.le.refl u) _ _
  · intro y hy
    obtain ⟨h, _, hy⟩ := List.mem_flatMap.1 hy
    exact encI_one h y hy

/-- A heap that holds the first k of what it was offered. -/
def TopAt (u0 : H) (n : Nat) (k : Int) (u : H) (S : List Hit) : Prop := ∃ l, TopSt u0 n k u l ∧ Hp (fun a b => hlt b a) l.length l ∧ l.Perm (topk k.toNat S)

theorem TopAt.le {u0 u : H} {n : Nat} {k : Int} {S : List Hit} (h : TopAt u0 n k u S) : u0.le u := by
  obtain ⟨l, h, _, _⟩ := h
  obtain ⟨s, _, ho, _⟩ := h.ex
  exact ho.le

theorem TopAt.mono {u0 u u' : H} {n : Nat} {k : Int} {S : List Hit} (h : TopAt u0 n k u S) (hu : u.le u') : TopAt u0 n k u' S := by
  obtain ⟨l, h, h2, h3⟩ := h
  obtain ⟨s, hn, ho, hne⟩ := h.ex
  exact ⟨l, ⟨⟨s, hu _ _ hn, ho.mono hu, hne⟩, h.out, h.small⟩, h2, h3⟩

theorem TopAt.rebase {u0 u : H} {n : Nat} {k : Int} {S : List Hit} (h : TopAt u0 n k u S) {m : Nat} (hm : u m = none) (o : Obj) : TopAt (u0.ins m o) n k (u.ins m o) S := by
  obtain ⟨l, h, h2, h3⟩ := h
  obtain ⟨s, hn, ho, hne⟩ := h.ex
  have hmn : n ≠ m := fun e => by rw [e, hm] at hn; cases hn
  exact ⟨l, ⟨⟨s, by rw [H.ins_other _ _ hmn]; exact hn, ho.rebase hm o, hne⟩, by rw [H.ins_other _ _ hmn]; exact h.out, h.small⟩, h2, h3⟩

theorem OwnF.insOut {u0 u : H} {e k : Nat} {s : Sl} {xs : List Value} (h : OwnF u0 u e k s xs) {D : Nat} (hD : u0 D = none) (hb : s.blk ≠ some D) (o : Obj) : OwnF u0 (u.ins D o) e k s xs := by
  refine ⟨h.own.le fun b x hx hux => ?_, fun b x hx => ?_, h.fresh⟩
  · rw [H.ins_other _ _ (fun e => hb (by rw [hx, e]))]; exact hux
  · rw [H.ins_other _ _ (fun e => by rw [e, hD] at hx; cases hx)]; exact h.le b x hx

theorem TopAt.perm {u0 u : H} {n : Nat} {k : Int} {S T : List Hit} (h : TopAt u0 n k u S) (hp : S.Perm T) : TopAt u0 n k u T := by
  obtain ⟨l, h1, h2, h3⟩ := h
  exact ⟨l, h1, h2, by rw [← topk_eq hp]; exact h3⟩

theorem spec.topk_New {k : Int} {u : H} {K : Option Addr → Int → H → Prop} (hbad : k < 1 ∨ 64 < k → K none 1 u) (hok : 1 ≤ k → k ≤ 64 → ∀ n u', u.le u' → u n = none → TopAt u n k u' [] → K (some ⟨n, 0, none⟩) 0 u') : C.topk_New k u K := by
  apply vc.topk_New
  refine ⟨fun h => hbad (.inl h), fun h => ⟨fun h2 => hbad (.inr h2), fun h2 n hn => hok (by omega) (by omega) n _ (H.le_ins _ hn) hn ?_⟩⟩
  refine ⟨[], ⟨⟨⟨none, 0, 0⟩, H.ins_same _ _ _, OwnF.nil (H.le_ins _ hn) _ _, by simp [Sl.blk]⟩, hn, by simp⟩, fun i _ hi => by simp at hi, ?_⟩
  simp [topk, sortH]

theorem spec.topk_Heap__Offer {u0 u : H} {n : Nat} {k : Int} {S : List Hit} {x : Hit} {K : Bool → H → Prop} (h : TopAt u0 n k u S) (k1 : 1 ≤ k) (k2 : k ≤ 64) (hK : ∀ b u', TopAt u0 n k u' (x :: S) → K b u') :
    C.topk_Heap__Offer (some ⟨n, 0, none⟩) x.1 (hiW x.2) (loW x.2) u K := by
  obtain ⟨l, hst, hh, hp⟩ := h
  obtain ⟨s, hn, ho, hne⟩ := hst.ex
  have hlen := hp.length_eq
  rw [topk_len] at hlen
  have hsn := ho.hts.len
  apply vc.topk_Heap__Offer
  have hc1 : u.cell? ((Addr.mk n 0 none).add 1) = some (.slice s.a s.n s.c) := by rw [add1]; exact H.cell?_of hn 1
  refine ⟨fun hx => (by cases hx), fun _ => ⟨_, rfl, _, rfl, s, hc1, k, H.cell?_of hn 0, fun hlt' => ⟨_, rfl, ?_⟩, fun hge => ?_⟩⟩
  · refine spec.heap_Push (topHeap u0 n k) heapLt (y := x) hh (fun hK' => heap_push hst (by omega) hK') fun u' l' hs' hp' hh' => hK true u' ⟨l', hs', hh', ?_⟩
    have hS : S.length < k.toNat := by omega
    obtain ⟨t1, t2⟩ := topk_room (x := x) hS
    exact hp'.trans (List.perm_append_singleton _ _ |>.trans ((List.Perm.cons x (hp.trans t2)).trans t1.symm))
  · have hk : l.length = k.toNat := by omega
    have hS : k.toNat ≤ S.length := by omega
    obtain ⟨p, hp1, r, hr, c0, c1, c2⟩ := ho.hts.at (x := 0) (by omega) (by omega)
    obtain ⟨t, rfl⟩ : ∃ t, l = r :: t := by
      cases l with
      | nil => simp at hr
      | cons a t => simp at hr; subst hr; exact ⟨t, rfl⟩
    have hroot : ∀ y ∈ r :: t, hlt r y = false := by
      intro y hy
      obtain ⟨i, hi, rfl⟩ := List.mem_iff_getElem.1 hy
      have := Hp.root heapLt hh i hi
      simpa [List.getD_eq_getElem?_getD, List.getElem?_eq_getElem hi] using this
    refine ⟨_, rfl, s, hc1, p, hp1, ⟨by omega, by omega⟩, _, c0, _, c1, _, c2, spec.topk_Less ⟨fun hb => hK false u ⟨r :: t, hst, hh, ?_⟩, fun hb => ⟨_, rfl, s, hc1, p, hp1, ⟨by omega, by omega⟩, ?_⟩⟩⟩
    · rw [topk_worse hS fun y hy => hlt_le_trans (hroot y (hp.mem_iff.2 hy)) (by simpa using hb)]
      exact hp
    · refine OwnF.store (enc := encH) encH_len ho (by decide) (i := 0) (by simp) (y := x) (encH_one x) hp1 fun u1 ho1 he1 _ => ⟨_, rfl, ?_⟩
      have hst1 : TopSt u0 n k u1 ((r :: t).set 0 x) := hst.set hn hne ho1 he1 (by simp)
      refine spec.heap_Fix (topHeap u0 n k) heapLt hst1 (by simp) (by simpa using hh.downI (Nat.le_refl _) x) fun u' l' hs' hp' hh' => hK true u' ⟨l', hs', hh', ?_⟩
      exact hp'.trans (topk_better hp hroot hb (by rw [topk_len]; omega))

theorem spec.topk_Heap__List {u0 u : H} {n : Nat} {k : Int} {S : List Hit} {K : Sl → H → Prop} (h : TopAt u0 n k u S) (hK : ∀ s' u', OwnF u u' 66 3 s' ((topk k.toNat S).flatMap encH) → K s' u') :
    C.topk_Heap__List (some ⟨n, 0, none⟩) u K := by
  obtain ⟨l, hst, hh, hp⟩ := h
  obtain ⟨s, hn, ho, hne⟩ := hst.ex
  have hsm := hst.small
  have hsn := ho.hts.len
  apply vc.topk_Heap__List
  have hc1 : u.cell? ((Addr.mk n 0 none).add 1) = some (.slice s.a s.n s.c) := by rw [add1]; exact H.cell?_of hn 1
  refine ⟨fun hx => (by cases hx), fun _ => ⟨_, rfl, s, hc1, spec.slices_Clone__api_Hit_ ho.hts (by omega) fun s' u' ho' _ => ?_⟩⟩
  refine spec.slices_SortFunc__api_Hit_ (cf := cmpH) cmpH_lt (enters_of Tryz.func99 (by kernel_rfl) rfl) compare_eq ho' (by omega) fun u2 ho2 _ => hK s' u2 ?_
  rw [sortH_eq hp] at ho2
  rw [← sortH_of (.refl _) (topk_srt _ _)] at ho2
  exact ho2

end Go.Proofs.YtncgdoeobblnkaaGreat

/- VcRange -/
namespace Go.Proofs.YtncgdoeobblnkaaGreat
open Go.RowKit

def noDefer (o : Oper) : Bool := match o.op with
  | .defer _ => false
  | _ => true

/-- Code that a round's body may be, here. -/
def plainC : Code → Bool
  | .skip => true
  | .seq a b => plainC a && plainC b
  | .cond _ a b => plainC a && plainC b
  | .block _ b => plainC b
  | .region _ ops _ => ops.toList.all noDefer
  | _ => false

theorem noDefer_spec {o : Oper} (h : noDefer o = true) : ∀ c, o.op ≠ .defer c := fun c hc => by
  unfold noDefer at h
  rw [hc] at h; cases h

/-- Whatever order is picked, in a round too. -/
theorem wpAny_In {P : Program} {ops : Array Oper} {Q : Exit → Act → World → Prop} (hd : ∀ o ∈ ops.toList, noDefer o = true) (hQ : ¬ LetsOut Q) (ro : Option Nat) : ∀ (fuel : Nat) (listed : Array Bool) (a : Act) (w : World),
    wpAny P .any ops Q fuel listed a w → wpAnyIn (Fr ro) 0 P .any ops Q fuel listed a w := by
  intro fuel
  induction fuel with
  | zero => intro listed a w h; exact h
  | succ fuel ih =>
    intro listed a w h
    refine ⟨h.1, fun i hi => ?_⟩
    have h2 := h.2 i hi
    unfold wpOp at h2
    unfold wpOpIn
    cases ho : ops[i]? with
    | none => rw [ho] at h2; exact ih _ _ _ h2
    | some o =>
      rw [ho] at h2
      simp only at h2 ⊢
      split at h2
      · rename_i hw
        rw [if_pos hw]
        rcases h2 with h3 | h3
        · exact Go.Oper.wpIn_mono (fun a w h => ih _ _ _ h) (wp_to_In ro (.inr (noDefer_spec (hd o (by rw [Array.mem_toList_iff]; exact Array.mem_of_getElem? ho)))) h3)
        · exact absurd h3.2 hQ
      · rename_i hw
        rw [if_neg hw]
        exact ⟨fun _ _ => trivial, ih _ _ _ h2⟩

section
variable {C : Cfg} {wrt : Nat → Bool} {s : St} {u : H} {bs : List Nat} {a : Act} {w : World}

set_option maxHeartbeats 1000000 in
theorem code_soundIn (hG : Good C) (ro : Option Nat) : ∀ (c : Code), plainC c = true → ∀ (p : Nat) (wrt : Nat → Bool) (Q : Exit → St → H → Prop) (s : St) (u : H), WPc C [] c p wrt Q s u →
    ∀ (bs : List Nat) (a : Act) (w : World), Fits s bs u a w → c.wpIn (Fr ro) 0 C.P (Post wrt s bs u a w (codeDsts c) Q) a w := by
  intro c
  induction c with
  | skip =>
    intro _ p wrt Q s u h bs a w hf
    exact wpIn_skip ⟨fun _ => Exit.noConfusion, s, u, bs, h, hf, Step.refl hf.sub, Kept.refl _ _, fun _ _ => rfl⟩
  | region id ops dr =>
    intro hpl p wrt Q s u h bs a w hf
    cases dr with
    | true =>
      simp only [plainC, List.all_eq_true] at hpl
      simp only [WPc] at h
      split at h
      · rename_i hsel
        have hfd : Fits s bs u a { w with drawn := w.drawn + 1 } := ⟨hf.toFitsE, hf.len, hf.loc, hf.nodup, hf.hid, hf.sub⟩
        have hcl : Closed ops (Array.replicate ops.size false) := by
          intro j o _ hj
          have : (Array.replicate ops.size false).getD j false = false := by
            rw [Array.getD_eq_getD_getElem?, Array.getElem?_replicate]; split <;> rfl
          rw [this] at hj; cases hj
        have hco : Cont wrt s bs u a { w with drawn := w.drawn + 1 } (memB (codeDsts (.region id ops true))) (Q .normal) (fun a' w' => Exit.normal = .normal ∧ Post wrt s bs u a w (codeDsts (.region id ops true)) Q .normal a' w') := by
          intro s' u' bs' a' w' hk hf' hs hkp ha
          exact ⟨rfl, fun _ => Exit.noConfusion, s', u', bs', hk, hf', (Step.draws hf.sub (Nat.le_succ _)).trans hs, hkp, ha⟩
        have hin : (Code.region id ops true).wpIn (Fr ro) 0 C.P (fun e a' w' => e = .normal ∧ Post wrt s bs u a w (codeDsts (.region id ops true)) Q .normal a' w') a w := by
          refine wpIn_region_any hG.mixed (wpAny_In hpl (fun hl => by obtain ⟨_, _, h, _⟩ := hl; exact Exit.noConfusion h) ro _ _ _ _ ?_)
          split at h
          · refine wpAny_of_G (nd := ndOf ops) (S := FitsW s.loc bs u) _ _ _ _ ?_
            exact draw_sound hG (ds := memB (codeDsts (.region id ops true))) (loc0 := s.loc) (bs0 := bs) hsel (fun c a w hp => Exit.noConfusion hp.1) (fun o ho d hd => dst_mem ho hd) _ _ _ s u h bs a _ _ hfd hcl (by unfold left; simp) (fun _ => ⟨H.le.refl u, rfl, rfl⟩) ⟨[], by simp⟩ hco
          · obtain ⟨v0, hle0, h⟩ := h
            refine wpAny_of_R (R := RelP ops s.loc bs v0 u) _ _ _ _ ?_
            exact drawP_sound hG (ds := memB (codeDsts (.region id ops true))) (loc0 := s.loc) (bs0 := bs) hle0 hsel (fun c a w hp => Exit.noConfusion hp.1) (fun o ho d hd => dst_mem ho hd) _ _ _ s u h bs a _ _ hfd hcl (by unfold left; simp) (fun _ => ⟨H.le.refl u, rfl, rfl⟩) ⟨[], by simp⟩ hco
        exact wpIn_mono hin fun e a' w' ⟨h1, h2⟩ => by rw [h1]; exact h2
      · exact h.elim
    | false =>
      simp only [plainC, List.all_eq_true] at hpl
      simp only [WPc] at h
      refine wpIn_region_list (seq_soundIn hG ro (ds := memB (codeDsts (.region id ops false))) ops.toList s u bs a w h hf (.inr fun o ho c hc => ?_) (fun o ho d hd => dst_mem ho hd) ?_)
      · have := hpl o ho
        unfold noDefer at this
        rw [hc] at this; cases this
      · intro s' u' bs' a' w' hk hf' hs hkp ha
        exact ⟨fun _ => Exit.noConfusion, s', u', bs', hk, hf', hs, hkp, ha⟩
  | seq x y ihx ihy =>
    intro hpl p wrt Q s u h bs a w hf
    have hdx : ∀ d, memB (codeDsts (.seq x y)) d = false → memB (codeDsts x) d = false := fun d h => by simp only [codeDsts, memB_append, Bool.or_eq_false_iff] at h; exact h.1
    have hdy : ∀ d, memB (codeDsts (.seq x y)) d = false → memB (codeDsts y) d = false := fun d h => by simp only [codeDsts, memB_append, Bool.or_eq_false_iff] at h; exact h.2
    simp only [plainC, Bool.and_eq_true] at hpl
    simp only [WPc, annAt] at h
    · refine wpIn_seq (Code.wpIn_mono ?_ (ihx hpl.1 _ _ _ s u h bs a w hf))
      intro e a' w' hp
      obtain ⟨hne, s', u', bs', hq, hf', hs, hk, ha⟩ := hp
      cases e with
      | normal =>
        refine Code.wpIn_mono ?_ (ihy hpl.2 _ _ _ s' u' hq bs' a' w' hf')
        intro e2 a2 w2 hp2
        exact Post.next hs hk (fun d hd => ha d (hdx d hd)) (hp2.mono hdy)
      | exit id => exact ⟨hne, s', u', bs', hq, hf', hs, hk, fun d hd => ha d (hdx d hd)⟩
      | goto l => exact ⟨hne, s', u', bs', hq, hf', hs, hk, fun d hd => ha d (hdx d hd)⟩
      | ret => exact ⟨hne, s', u', bs', hq, hf', hs, hk, fun d hd => ha d (hdx d hd)⟩
      | panic c => exact absurd rfl (hne c)
      | outgrown => exact ⟨hne, s', u', bs', hq, hf', hs, hk, fun d hd => ha d (hdx d hd)⟩
  | cond c x y ihx ihy =>
    intro hpl p wrt Q s u h bs a w hf
    simp only [plainC, Bool.and_eq_true] at hpl
    have hdx : ∀ d, memB (codeDsts (.cond c x y)) d = false → memB (codeDsts x) d = false := fun d h => by simp only [codeDsts, memB_append, Bool.or_eq_false_iff] at h; exact h.1
    have hdy : ∀ d, memB (codeDsts (.cond c x y)) d = false → memB (codeDsts y) d = false := fun d h => by simp only [codeDsts, memB_append, Bool.or_eq_false_iff] at h; exact h.2
    have hx : ∀ (st : St), a.eval c = .bool true → Fits st bs u a w → (st.loc = s.loc ∧ st.n = s.n) → WPc C [] x (2 * p) wrt Q st u → (Code.cond c x y).wpIn (Fr ro) 0 C.P (Post wrt s bs u a w (codeDsts (.cond c x y)) Q) a w := by
      intro st hc hfs hsn hw
      refine wpIn_cond_true hc (Code.wpIn_mono ?_ (ihx hpl.1 _ _ _ st u hw bs a w hfs))
      intro e a' w' hp
      exact Post.next (Step.refl hf.sub) ⟨hsn.2, by rw [hsn.1]; exact Nat.le_refl _, fun i cs e _ => by rw [hsn.1]; exact e⟩ (fun _ _ => rfl) (hp.mono hdx)
    have hy : ∀ (st : St), a.eval c = .bool false → Fits st bs u a w → (st.loc = s.loc ∧ st.n = s.n) → WPc C [] y (2 * p + 1) wrt Q st u → (Code.cond c x y).wpIn (Fr ro) 0 C.P (Post wrt s bs u a w (codeDsts (.cond c x y)) Q) a w := by
      intro st hc hfs hsn hw
      refine wpIn_cond_false hc (Code.wpIn_mono ?_ (ihy hpl.2 _ _ _ st u hw bs a w hfs))
      intro e a' w' hp
      exact Post.next (Step.refl hf.sub) ⟨hsn.2, by rw [hsn.1]; exact Nat.le_refl _, fun i cs e _ => by rw [hsn.1]; exact e⟩ (fun _ _ => rfl) (hp.mono hdy)
    have hsome : ∀ v, s.sv c = some v → ∀ t, c = .tmp t → (look s.env t).isSome = true := fun v hv t ht => by subst ht; simp only [St.sv] at hv; rw [hv]; rfl
    simp only [WPc] at h
    split at h
    · rename_i hc; exact hx s (Option.some.inj (hf.sv hc)).symm hf ⟨rfl, rfl⟩ h
    · rename_i hc; exact hy s (Option.some.inj (hf.sv hc)).symm hf ⟨rfl, rfl⟩ h
    · rename_i q d hc
      have hev := (Option.some.inj (hf.sv hc)).symm
      by_cases hq : q
      · have e1 : a.eval c = .bool true := by rw [hev]; simp [hq]
        obtain ⟨h1, h2⟩ := tell_fits (x := .tt) hf (by rw [e1]; rfl) (hsome _ hc)
        exact hx _ e1 h1 h2 (h.1 hq)
      · have e1 : a.eval c = .bool false := by rw [hev]; simp [hq]
        obtain ⟨h1, h2⟩ := tell_fits (x := .ff) hf (by rw [e1]; rfl) (hsome _ hc)
        exact hy _ e1 h1 h2 (h.2 hq)
    · rename_i q d hc
      have hev := (Option.some.inj (hf.sv hc)).symm
      by_cases hq : q
      · have e1 : a.eval c = .bool false := by rw [hev]; simp [hq]
        obtain ⟨h1, h2⟩ := tell_fits (x := .ff) hf (by rw [e1]; rfl) (hsome _ hc)
        exact hy _ e1 h1 h2 (h.2 hq)
      · have e1 : a.eval c = .bool true := by rw [hev]; simp [hq]
        obtain ⟨h1, h2⟩ := tell_fits (x := .tt) hf (by rw [e1]; rfl) (hsome _ hc)
        exact hx _ e1 h1 h2 (h.1 hq)
    · rename_i b hc
      have hev := (Option.some.inj (hf.sv hc)).symm
      cases b with
      | true =>
        obtain ⟨h1, h2⟩ := tell_fits (x := .tt) hf (by rw [hev]; rfl) (hsome _ hc)
        exact hx _ hev h1 h2 (h.1 rfl)
      | false =>
        obtain ⟨h1, h2⟩ := tell_fits (x := .ff) hf (by rw [hev]; rfl) (hsome _ hc)
        exact hy _ hev h1 h2 (h.2 rfl)
    · exact h.elim
  | block id b ih =>
    intro hpl p wrt Q s u h bs a w hf
    simp only [plainC] at hpl
    simp only [WPc] at h
    refine wpIn_block (Code.wpIn_mono ?_ (ih hpl _ _ _ s u h bs a w hf))
    intro e a' w' hp
    obtain ⟨hne, s', u', bs', hq, hf', hs, hk, ha⟩ := hp
    cases e with
    | exit j =>
      simp only at hq
      simp only [Exit.inBlock]
      split at hq
      · rename_i hj
        have := Nat.eq_of_beq_eq_true hj
        subst this
        rw [if_pos rfl]
        exact ⟨fun _ => Exit.noConfusion, s', u', bs', hq, hf', hs, hk, ha⟩
      · rename_i hj
        rw [if_neg (fun e => by subst e; rw [Nat.beq_refl] at hj; cases hj)]
        exact ⟨hne, s', u', bs', hq, hf', hs, hk, ha⟩
    | normal => exact ⟨hne, s', u', bs', hq, hf', hs, hk, ha⟩
    | goto l => exact ⟨hne, s', u', bs', hq, hf', hs, hk, ha⟩
    | ret => exact ⟨hne, s', u', bs', hq, hf', hs, hk, ha⟩
    | panic c => exact absurd rfl (hne c)
    | outgrown => exact ⟨hne, s', u', bs', hq, hf', hs, hk, ha⟩
  | label l => intro h; simp [plainC] at h
  | ret => intro h; simp [plainC] at h
  | exit id => intro h; simp [plainC] at h
  | goto l => intro h; simp [plainC] at h
  | refuse r => intro h; simp [plainC] at h
  | rangeFunc f ps x y => intro h; simp [plainC] at h
  | scope b ih => intro h; simp [plainC] at h
  | loop b ih => intro h; simp [plainC] at h

end

/-- An iterator's contract: it hands over just these, one by one, to whatever goes on each time. -/
def Iter {α : Type} (P : Program) (fv : Value) (enc : α → Value) (xs : List α) (u : H) : Prop :=
  ∀ (yv : Value) (J : Nat → H → Prop), (∀ i v, J i v → u.le v) →
    (∀ i y v (K : Bool → H → Prop), xs[i]? = some y → J i v → (∀ v', J (i + 1) v' → K true v') → ClR P yv #[enc y] [.one .bool] v K) →
    ∀ v (K : H → Prop), J 0 v → (∀ v', J xs.length v' → K v') → ClV P fv #[yv] [] v K

/-- A body's promise, in a round: x: the loop's variable, y: what is handed over. -/
def RoundOk (P : Program) (n : Nat) (assign body : Code) (env : List (Nat × Value)) (x : Nat) (y : Value) (v : H) (J : H → Prop) : Prop :=
  ∀ l a w, a.tmps.size = n → (∀ p ∈ env, p.1 ≠ x → a.tmps[p.1]? = some p.2) → a.tmps[x]? = some y → a.defers = [] → Sub v w →
    assign.wpIn (Fr (some l)) 0 P (Exit.then (fun a1 w1 => ∃ v1, Step v [] w v1 [] w1 ∧ ∀ w2, Sub v1 w2 →
      body.wpIn (Fr (some l)) 0 P (fun e _ w3 => e = .normal ∧ ∃ v2, J v2 ∧ Step v1 [] w2 v2 [] w3) a1 w2) (fun _ _ _ => False)) a w

theorem H.ins_le {u v : H} (h : u.le v) (b : Nat) (o : Obj) : (u.ins b o).le (v.ins b o) := by
  intro x y e
  unfold H.ins at e ⊢
  split at e
  · rename_i hx; rw [if_pos hx]; exact e
  · rename_i hx; rw [if_neg hx]; exact h x y e

theorem RgS.intro {P : Program} {α : Type} {t x n : Nat} {assign body : Code} {env : List (Nat × Value)} {u : H} {K : Nat → H → Prop} {enc : α → Value} {xs : List α} {fv : Value} {ub : H} (hub : ub.le u)
    (hf : ∀ f args w, (∃ fn, P.funcs[f]? = some fn ∧ fn.body.isSome = true) → (callFunc f args).run P w = .ok (.enter f args) w) (hg : (t, fv) ∈ env) (hx : x < n)
    (hit : ∀ u0, ub.le u0 → Iter P fv enc xs u0) (J : Nat → H → Prop) (h0 : J 0 u) (hle : ∀ i v, J i v → ub.le v)
    (hbody : ∀ i y v, xs[i]? = some y → J i v → RoundOk P n assign body env x (enc y) v (J (i + 1)))
    (hK : ∀ v D, J xs.length v → v D = none → K D (v.ins D (.deferred (some [])))) : RgS P (.rangeFunc (.tmp t) #[x] assign body) n env u K := by
  intro a w hsz henv hdef hsub
  refine (wpIn_wide (n := 0)).1 (wpIn_rangeFunc ?_)
  intro fn _
  have hev : a.eval (.tmp t) = fv := by
    simp only [Act.eval]; rw [Array.getD_eq_getD_getElem?, henv _ hg]; rfl
  obtain ⟨rec, hrec⟩ : ∃ rec : LoopState → Loop, rec = fun st => { state := st, pending := none, fn, tmps := a.tmps, params := #[x], assign, body, defers := w.heap.size } := ⟨_, rfl⟩
  obtain ⟨W1, hW1⟩ : ∃ W1, (w.alloc (.deferred (some []))).alloc (.loop (rec .ready)) = W1 := ⟨_, rfl⟩
  have hsz1 : W1.heap.size = w.heap.size + 2 := by rw [← hW1]; simp
  have hL1 : W1.heap[w.heap.size + 1]? = some (.loop (rec .ready)) := by
    rw [← hW1]; have := World.alloc_heap_new (w.alloc (.deferred (some []))) (.loop (rec .ready)); rwa [World.size_alloc] at this
  have hK1 : W1.heap[w.heap.size]? = some (.deferred (some [])) := by
    rw [← hW1]; exact (Below.heap_alloc _ _ _ (by simp)).trans (World.alloc_heap_new w _)
  have hold : ∀ b, b < w.heap.size → W1.heap[b]? = w.heap[b]? := fun b hb => by
    rw [← hW1]; exact (Below.heap_alloc _ _ _ (by simp; omega)).trans (Below.heap_alloc _ _ _ hb)
  have hlu : u (w.heap.size + 1) = none := hsub.none (by omega)
  have hDu : u w.heap.size = none := hsub.none (Nat.le_refl _)
  have hlb : ub (w.heap.size + 1) = none := by
    cases hx : ub (w.heap.size + 1) with
    | none => rfl
    | some o => rw [hub _ _ hx] at hlu; cases hlu
  have hule : ub.le (ub.ins (w.heap.size + 1) (.loop (rec .ready))) := H.le_ins _ hlb
  have hsub1 : Sub (u.ins (w.heap.size + 1) (.loop (rec .ready))) W1 := by
    intro b o hb
    unfold H.ins at hb
    split at hb
    · rename_i hbl; subst hbl; cases hb; exact hL1
    · have := hsub b o hb
      have hlt := hsub.lt hb
      rw [hold b hlt]; exact this
  -- the iterator's call
  have hcl := hit _ hule (.func (.yield (w.heap.size + 1)) #[] #[])
    (fun i v => ∃ v0, v = v0.ins (w.heap.size + 1) (.loop (rec .ready)) ∧ v0 (w.heap.size + 1) = none ∧ v0 w.heap.size = none ∧ J i v0)
    (fun i v ⟨v0, hv, _, _, hj⟩ => by rw [hv]; exact H.ins_le (hle i v0 hj) _ _)
    (by
      rintro i y v K' hy ⟨v0, rfl, hl0, hD0, hj⟩ hK'
      refine ⟨_, rfl, fun W hW => ?_⟩
      have hlW : W.heap[w.heap.size + 1]? = some (.loop (rec .ready)) := hW _ _ (H.ins_same _ _ _)
      have hlt : w.heap.size + 1 < W.heap.size := (Array.getElem?_eq_some_iff.1 hlW).1
      have hrun : (Instr.yield (w.heap.size + 1) #[enc y]).run P W = .ok (.round (w.heap.size + 1) fn (a.tmps.setIfInBounds x (enc y)) assign body) W := by
        have := run_yield (P := P) (args := #[enc y]) hlW (by rw [hrec]; rfl)
        rw [hrec] at this
        simpa using this
      have hsv0 : Sub v0 W := hW.mono (H.le_ins _ hl0)
      refine ⟨fn, _, assign, body, hrun, roundIn_of_wpIn trivial ?_⟩
      refine wpIn_mono (hbody i y v0 hy hj (w.heap.size + 1) _ W ?_ ?_ ?_ rfl hsv0) ?_
      · simpa using hsz
      · intro p hp hpx
        show (a.tmps.setIfInBounds x (enc y))[p.1]? = _
        rw [Array.getElem?_setIfInBounds_ne (Ne.symm hpx)]
        exact henv p hp
      · show (a.tmps.setIfInBounds x (enc y))[x]? = _
        rw [Array.getElem?_setIfInBounds_self]
        simp [hsz, hx]
      · intro e a1 w1 hp
        cases e with
        | normal =>
          obtain ⟨v1, hs1, hb⟩ := hp
          have hlW1 : w1.heap[w.heap.size + 1]? = some (.loop (rec .ready)) := (hs1.rest _ hlt hl0 (by simp)).trans hlW
          have hlt1 : w.heap.size + 1 < w1.heap.size := (Array.getElem?_eq_some_iff.1 hlW1).1
          have hl1 : v1 (w.heap.size + 1) = none := hs1.honest _ hlt hl0
          have hD1 : v1 w.heap.size = none := hs1.honest _ (by omega) hD0
          refine ⟨_, run_beginRound hlW1 (by rw [hrec]), wpIn_mono (hb _ ?_) ?_⟩
          · intro b o hbo
            have hne : b ≠ w.heap.size + 1 := fun e => by rw [e, hl1] at hbo; cases hbo
            exact (World.putObj_heap_other hne).trans (hs1.sub b o hbo)
          · rintro e a2 w3 ⟨rfl, v2, hj2, hs2⟩
            have hlW2 : (w1.putObj (w.heap.size + 1) (.loop { rec .ready with state := .busy })).heap[w.heap.size + 1]? = some (.loop { rec .ready with state := .busy }) := World.putObj_heap_same hlt1
            have hlW3 : w3.heap[w.heap.size + 1]? = some (.loop { rec .ready with state := .busy }) := (hs2.rest _ (by simpa using hlt1) hl1 (by simp)).trans hlW2
            have hlt3 : w.heap.size + 1 < w3.heap.size := (Array.getElem?_eq_some_iff.1 hlW3).1
            have hl2 : v2 (w.heap.size + 1) = none := hs2.honest _ (by simpa using hlt1) hl1
            have hend := run_endRound (P := P) none hlW3
            have erec : ({ { rec .ready with state := LoopState.busy } with state := if (none : Option Code).isNone then .ready else .done, pending := none } : Loop) = rec .ready := by rw [hrec]; rfl
            rw [erec] at hend
            refine ⟨_, _, hend, .bool true, v2.ins (w.heap.size + 1) (.loop (rec .ready)), rfl, ⟨[.bool true], .cons (t := .bool) true .nil, rfl, ?_⟩, ?_⟩
            · exact hK' _ ⟨v2, rfl, hl2, hs2.honest _ (by have := hs1.size; simp; omega) hD1, hj2⟩
            · refine ⟨fun b o hbo => ?_, hs2.os.trans hs1.os, hs2.tape.trans hs1.tape, hs2.output.trans hs1.output, Nat.le_trans hs1.drawn hs2.drawn, ?_, fun b hb hbn _ => ?_, fun b hb hbn => ?_, [], by simp, by simp⟩
              · unfold H.ins at hbo
                split at hbo
                · rename_i hbl; subst hbl; cases hbo; exact World.putObj_heap_same hlt3
                · rename_i hbl; rw [World.putObj_heap_other hbl]; exact hs2.sub b o hbo
              · have h1 := hs1.size
                have h2 := hs2.size
                simp at h2 ⊢
                omega
              · have hne : b ≠ w.heap.size + 1 := fun e => by rw [e, H.ins_same] at hbn; cases hbn
                rw [H.ins_other _ _ hne] at hbn
                have hb1 : b < w1.heap.size := Nat.lt_of_lt_of_le hb hs1.size
                rw [World.putObj_heap_other hne, hs2.rest b (by simpa using hb1) (hs1.honest b hb hbn) (by simp), World.putObj_heap_other hne]
                exact hs1.rest b hb hbn (by simp)
              · have hne : b ≠ w.heap.size + 1 := fun e => by rw [e, H.ins_same] at hbn; cases hbn
                rw [H.ins_other _ _ hne] at hbn ⊢
                exact hs2.honest b (by have := hs1.size; simp; omega) (hs1.honest b hb hbn)
        | _ => exact hp.elim)
    _ (fun v' => ∃ v0, v' = v0.ins (w.heap.size + 1) (.loop (rec .ready)) ∧ v0 (w.heap.size + 1) = none ∧ v0 w.heap.size = none ∧ J xs.length v0) ⟨u, rfl, hlu, hDu, h0⟩ (fun _ h => h)
  obtain ⟨gf, gp, cap, hfv, hbf, hcl⟩ := hcl
  rw [hfv] at hev
  refine ⟨w.heap.size + 1, [{ target := .collected w.heap.size, args := #[] }], W1, { target := .fn (.func gf) cap, args := gp ++ #[.func (.yield (w.heap.size + 1)) #[] #[]] }, W1, gf,
    gp ++ #[.func (.yield (w.heap.size + 1)) #[] #[]] ++ cap, W1, ?_, ?_, fun _ _ => trivial, ?_, fun h => by simp [Fence.wide] at h, ?_⟩
  · rw [← hW1, hrec]; exact run_enterLoop_outer _ _ _ _ _
  · simp only [resolve, hev]
    simp [go_sem]
  · simp [invoke, go_sem, hf gf _ _ hbf]
  · refine callsIn_wide.2 ((hcl W1 hsub1).mono ?_)
    rintro e w3 ⟨v, u', rfl, ⟨vs, hk, rfl, hc⟩, hs⟩
    cases hk
    obtain ⟨v0, rfl, hl0, hD0, hj⟩ : ∃ v0 : H, u' = v0.ins (w.heap.size + 1) (.loop (rec .ready)) ∧ v0 (w.heap.size + 1) = none ∧ v0 w.heap.size = none ∧ J xs.length v0 := hc
    have hlW3 : w3.heap[w.heap.size + 1]? = some (.loop (rec .ready)) := hs.sub _ _ (H.ins_same _ _ _)
    have hDW3 : w3.heap[w.heap.size]? = some (.deferred (some [])) := by
      rw [hs.rest _ (by omega) (by rw [H.ins_other _ _ (by omega)]; exact hDu) (by simp)]; exact hK1
    have hend : (Instr.endLoop (w.heap.size + 1)).run P w3 = .ok none (w3.putObj (w.heap.size + 1) (.loop { rec .ready with state := .exhausted })) := by
      have := run_endLoop (P := P) hlW3 (by rw [hrec]; simp)
      rw [this]
      rw [hrec]
    refine ⟨none, _, hend, rfl, rfl, w.heap.size, _, ?_, hK v0 w.heap.size hj hD0, ?_⟩
    · simp [hdef, dfsOf]
    · have hs3 := hs.size
      refine ⟨fun b o hbo => ?_, ?_, ?_, ?_, ?_, by simp; omega, fun b hb hbn _ => ?_, fun b hb hbn => ?_, [], by simp, by simp⟩
      · unfold H.ins at hbo
        split at hbo
        · rename_i hbl; subst hbl; cases hbo
          rw [World.putObj_heap_other (by omega)]; exact hDW3
        · have hne : b ≠ w.heap.size + 1 := fun e => by rw [e, hl0] at hbo; cases hbo
          rw [World.putObj_heap_other hne]
          exact hs.sub b o (by rw [H.ins_other _ _ hne]; exact hbo)
      · exact hs.os.trans (by rw [← hW1]; rfl)
      · exact hs.tape.trans (by rw [← hW1]; rfl)
      · exact hs.output.trans (by rw [← hW1]; rfl)
      · exact Nat.le_trans (by rw [← hW1]; exact Nat.le_refl _) hs.drawn
      · have hne : b ≠ w.heap.size + 1 := by omega
        rw [World.putObj_heap_other hne, hs.rest b (by omega) (by rw [H.ins_other _ _ hne]; exact hbn) (by simp)]
        exact hold b hb
      · have hne : b ≠ w.heap.size + 1 := by omega
        have := hs.honest b (by omega) (by rw [H.ins_other _ _ hne]; exact hbn)
        rw [H.ins_other _ _ hne] at this
        rw [H.ins_other _ _ (by omega)]; exact this

/-- A round's body by its formula. -/
theorem RoundOk.of {C : Cfg} (hG : Good C) {n : Nat} {assign body : Code} {env : List (Nat × Value)} {x : Nat} {y : Value} {v : H} {J : H → Prop} (ha : plainC assign = true) (hb : plainC body = true)
    (env' : List (Nat × SV)) (henv : ∀ p ∈ env', ∃ z, conc [] p.2 = some z ∧ ((p.1 = x ∧ z = y) ∨ p.1 ≠ x ∧ (p.1, z) ∈ env))
    (h : WPc C [] assign 1 (fun _ => true) (fun e s u => e = .normal ∧ s.loc = [] ∧ WPc C [] body 1 (fun _ => true) (fun e _ u => e = .normal ∧ J u) s u) { n := n, env := env', loc := [] } v) :
    RoundOk C.P n assign body env x y v J := by
  intro l a w hsz he hx hd hs
  have hf : Fits { n := n, env := env', loc := [] } [] v a w := by
    refine ⟨⟨hd, hsz, fun p hp => ?_⟩, rfl, fun i cs e => by simp at e, by simp, by simp, hs⟩
    obtain ⟨z, h1, h2⟩ := henv p hp
    refine ⟨z, h1, ?_⟩
    rcases h2 with ⟨h3, rfl⟩ | ⟨h3, h4⟩
    · rw [h3]; exact hx
    · exact he _ h4 h3
  refine wpIn_mono (code_soundIn hG (some l) assign ha 1 _ _ _ v h [] a w hf) ?_
  rintro e a1 w1 ⟨_, s', u', bs', ⟨rfl, hloc, hb'⟩, hf', hst, _, _⟩
  have hbs : bs' = [] := by have := hf'.len; rw [hloc] at this; simpa using this
  subst hbs
  refine ⟨u', hst, fun w2 hw2 => ?_⟩
  have hf2 : Fits s' [] u' a1 w2 := ⟨hf'.toFitsE, hf'.len, fun i cs e => by rw [hloc] at e; simp at e, by simp, by simp, hw2⟩
  refine wpIn_mono (code_soundIn hG (some l) body hb 1 _ _ s' u' hb' [] a1 w2 hf2) ?_
  rintro e a2 w3 ⟨_, s2, u2, bs2, ⟨rfl, hj⟩, hf3, hst2, _, _⟩
  exact ⟨rfl, u2, hj, hst2.forget⟩

def rgA : Code → Code
  | .rangeFunc _ _ x _ => x
  | _ => .skip
def rgB : Code → Code
  | .rangeFunc _ _ _ x => x
  | _ => .skip

theorem RgS.code {P : Program} {c : Code} {t x n : Nat} {env : List (Nat × Value)} {u : H} {K : Nat → H → Prop} (hc : c = .rangeFunc (.tmp t) #[x] (rgA c) (rgB c)) (h : RgS P (.rangeFunc (.tmp t) #[x] (rgA c) (rgB c)) n env u K) : RgS P c n env u K := by
  rw [hc]; exact h

end Go.Proofs.YtncgdoeobblnkaaGreat

/- VcFlat -/
namespace Go.Proofs.YtncgdoeobblnkaaGreat

/-- A hit as a value. -/
def hitV (h : Hit) : Value := .agg #[.int .i64 h.1, .int .u64 (hiW h.2), .int .u64 (loW h.2)]

theorem bHits1 : hasBody Tryz.prog 94 = true := by kernel_rfl

theorem hits_iter {u : H} {s t : Sl} {l : List Rw} {q : List Int} (hs : Rws u s l) (ht : Ints u t q) (hok : Qok l q) {n0 n1 : Nat} (c0 : u.cell? ⟨n0, 0, none⟩ = some (.slice s.a s.n s.c)) (c1 : u.cell? ⟨n1, 0, none⟩ = some (.slice t.a t.n t.c)) :
    Iter Tryz.prog (.func (.func 94) #[] #[.pointer (some ⟨n0, 0, none⟩), .pointer (some ⟨n1, 0, none⟩)]) hitV (l.map (hitOf q)) u := by
  intro yv J hJ hround v K h0 hK
  refine ⟨_, _, _, rfl, bodyOf bHits1, ?_⟩
  have e : (#[] ++ #[yv] ++ #[Value.pointer (some ⟨n0, 0, none⟩), .pointer (some ⟨n1, 0, none⟩)] : Array Value) = #[yv, .pointer (some ⟨n0, 0, none⟩), .pointer (some ⟨n1, 0, none⟩)] := by simp
  rw [e]
  have hn := hs.len
  have hdim := hok.rows.dim
  refine vc.flat_hits_1 yv ⟨n0, 0, none⟩ ⟨n1, 0, none⟩ v K ⟨s, H.cell?_mono (hJ _ _ h0) c0, fun i w => 0 ≤ i ∧ i ≤ (s.n : Int) ∧ J i.toNat w, fun i _ => s.n - i.toNat, ⟨by omega, by omega, h0⟩, ?_⟩
  rintro i w ⟨i0, i1, hj⟩
  have hle := hJ _ _ hj
  refine ⟨fun hi => ?_, fun hi => hK _ ?_⟩
  · obtain ⟨p, hp, r, hr, d0, d1, hv⟩ := (hs.mono hle).at i0 hi
    have hrm := List.mem_of_getElem? hr
    obtain ⟨hl, hvr⟩ := hok.rows.v r hrm
    refine ⟨p, hp, ⟨i0, hi⟩, _, d0, _, d1, t, H.cell?_mono hle c1, spec.vec_Dist hv (ht.mono hle) hvr (by omega) hok.vq (by omega) fun x y hx hy hw => ?_⟩
    have ex : x = hiW (hitOf q r).2 := by rw [← show wv x y = (hitOf q r).2 from hw, hi_wv hy]
    have ey : y = loW (hitOf q r).2 := by rw [← show wv x y = (hitOf q r).2 from hw, lo_wv hy]
    subst ex; subst ey
    refine .inr (hround i.toNat (hitOf q r) w _ (by rw [List.getElem?_map, hr]; rfl) hj fun v' hv' => ⟨fun h => absurd rfl h, fun _ => ⟨⟨by have := hs.max; omega, by have := hs.max; omega⟩, ⟨by omega, by omega, ?_⟩, by dsimp only; omega⟩⟩)
    rw [show (i + 1).toNat = i.toNat + 1 by omega]
    exact hv'
  · rw [List.length_map]
    have : i.toNat = l.length := by omega
    rw [← this]; exact hj

theorem callOk : ∀ f args w, (∃ fn, Tryz.prog.funcs[f]? = some fn ∧ fn.body.isSome = true) → (callFunc f args).run Tryz.prog w = .ok (.enter f args) w :=
  fun _ args w h => callFunc_run (good [] false (ent := []) (nxt := []) (part := false)) h args w

/-! ### TopK -/

noncomputable abbrev topkC : Code := rgCode (Tryz.f28.body.getD Go.Code.skip)

theorem topkC_eq : topkC = .rangeFunc (.tmp 34) #[35] (rgA topkC) (rgB topkC) := by kernel_rfl

theorem topk_round (n9 : Nat) (y : Hit) (v : H) (J : H → Prop) (env : List (Nat × Value)) (he : (9, Value.pointer (some ⟨n9, 0, none⟩)) ∈ env)
    (h : ∀ m, v m = none → H.St (v.ins m (.cells #[.int .i64 0, .int .u64 0, .int .u64 0] 66 (0, 0))) ⟨m, 0, none⟩ [.int .i64 y.1, .int .u64 (hiW y.2), .int .u64 (loW y.2)] fun u1 => Exit.normal = Exit.normal ∧ ([] : List (List Value)) = [] ∧
      ∃ p : Option Addr, u1.cell? ⟨n9, 0, none⟩ = some (.pointer p) ∧ ∃ x1 : Int, u1.cell? ⟨m, 0, none⟩ = some (.int .i64 x1) ∧ ∃ x2 : Int, u1.cell? ((Addr.mk m 0 none).add 1) = some (.int .u64 x2) ∧ ∃ x3 : Int, u1.cell? ((Addr.mk m 0 none).add 2) = some (.int .u64 x3) ∧
        C.topk_Heap__Offer p x1 x2 x3 u1 fun _ u2 => Exit.normal = Exit.normal ∧ J u2) :
    RoundOk Tryz.prog 41 (rgA topkC) (rgB topkC) env 35 (hitV y) v J :=
  RoundOk.of (C := { P := Tryz.prog, exp := [11], wrap := false, eqT := eqT }) (good _ _) (by kernel_rfl) (by kernel_rfl) [(35, .v (hitV y)), (9, .ptr ⟨n9, 0, none⟩)] (by
    intro p hp
    rcases List.mem_cons.1 hp with rfl | hp
    · exact ⟨_, rfl, .inl ⟨rfl, rfl⟩⟩
    · rcases List.mem_cons.1 hp with rfl | hp
      · exact ⟨_, rfl, .inr ⟨show (9 : Nat) ≠ 35 by decide, he⟩⟩
      · cases hp) (Eq.mp (by kernel_rfl) h)

theorem st_new3 {u : H} {m : Nat} {y : Hit} {T : TypeId} {f : H → Prop} (hf : f (u.ins m (.cells (encH y).toArray T (0, 0)))) :
    H.St (u.ins m (.cells #[.int .i64 0, .int .u64 0, .int .u64 0] T (0, 0))) ⟨m, 0, none⟩ [.int .i64 y.1, .int .u64 (hiW y.2), .int .u64 (loW y.2)] f :=
  st_new (zs := [.int .i64 0, .int .u64 0, .int .u64 0]) rfl (by simp [Value.oneCell']) hf

theorem cells3 {u : H} {m : Nat} {y : Hit} {T : TypeId} : (u.ins m (.cells (encH y).toArray T (0, 0))).cell? ⟨m, 0, none⟩ = some (.int .i64 y.1) ∧ (u.ins m (.cells (encH y).toArray T (0, 0))).cell? ((Addr.mk m 0 none).add 1) = some (.int .u64 (hiW y.2)) ∧
    (u.ins m (.cells (encH y).toArray T (0, 0))).cell? ((Addr.mk m 0 none).add 2) = some (.int .u64 (loW y.2)) := by
  rw [Addr.add_lit, Addr.add_lit]
  refine ⟨?_, ?_, ?_⟩ <;> (rw [H.cell?_ins]; rfl)

theorem cell_ins_other {u : H} {m : Nat} {o : Obj} {a : Addr} {v : Value} (h : u.cell? a = some v) (hm : u m = none) : (u.ins m o).cell? a = some v := H.cell?_mono (H.le_ins _ hm) h

theorem take_map_succ {α β : Type} (f : α → β) (l : List α) (i : Nat) (y : β) (h : (l.map f)[i]? = some y) : (l.map f).take (i + 1) = (l.map f).take i ++ [y] := by
  rw [List.take_add_one, h]; rfl

/-- What the errors of a search for the first k are. -/
def topErr (l : List Rw) (q : List Int) (k : Int) : Int := if asked l q ≠ 0 then asked l q else if k < 1 ∨ 64 < k then 1 else 0

theorem spec.flat_TopK {s t : Sl} {l : List Rw} {q : List Int} {k : Int} {u : H} {K : Sl → Int → H → Prop} (hs : Rws u s l) (ht : Ints u t q)
    (hbad : topErr l q k ≠ 0 → K ⟨none, 0, 0⟩ (topErr l q k) u) (hok : Qok l q → 1 ≤ k → k ≤ 64 → ∀ s' u', OwnF u u' 66 3 s' ((topk k.toNat (l.map (hitOf q))).flatMap encH) → K s' 0 u') : C.flat_TopK s t k u K := by
  apply vc.flat_TopK
  refine spec.flat_asked hs ht ⟨fun hne => ?_, fun he => ?_⟩
  · have : topErr l q k = asked l q := if_pos hne
    rw [this] at hbad; exact hbad hne
  have hqok := asked_ok.1 he
  have htop : k < 1 ∨ 64 < k → topErr l q k = 1 := fun h => by unfold topErr; rw [if_neg (by simpa using he), if_pos h]
  intro K2 hK2
  refine ⟨fun h1 => ?_, fun h1 => ⟨fun h2 => ?_, fun h2 => hK2 ⟨none, 0, 0⟩ _ _ ?_⟩⟩
  · rw [htop (.inl h1)] at hbad; exact hbad (by decide)
  · rw [htop (.inr h2)] at hbad; exact hbad (by decide)
  clear hK2 K2
  refine spec.topk_New (fun h => by omega) fun k1 k2 n u1 hu1 hn1 htop1 n9 hn9 => st_new (zs := [.pointer none]) rfl (by simp [Value.oneCell']) ?_
  refine ⟨fun h => absurd rfl h, fun _ => ?_⟩
  apply vc.flat_hits
  intro n0 hn0 n1 hn1'
  have b9 : u1.ins n9 (Obj.cells [Value.pointer (some ⟨n, 0, none⟩)].toArray 107 (0, 0)) = u1.ins n9 (Obj.cells #[Value.pointer (some ⟨n, 0, none⟩)] 107 (0, 0)) := rfl
  rw [b9] at hn0 hn1' ⊢
  generalize hob9 : Obj.cells #[Value.pointer (some ⟨n, 0, none⟩)] 107 (0, 0) = o9 at hn0 hn1' ⊢
  generalize hob0 : Obj.cells #[Value.slice s.a s.n s.c] 22 (0, 0) = o0 at hn1' ⊢
  generalize hob1 : Obj.cells #[Value.slice t.a t.n t.c] 41 (0, 0) = o1
  have htop2 := ((htop1.rebase hn9 o9).rebase hn0 o0).rebase hn1' o1
  have l9 : u1.le (u1.ins n9 o9) := H.le_ins _ hn9
  have hu9 : u n9 = none := hu1.none hn9
  have hu0 : (u.ins n9 o9) n0 = none := (H.ins_le hu1 n9 o9).none hn0
  have hub1 : ((u.ins n9 o9).ins n0 o0) n1 = none := (H.ins_le (H.ins_le hu1 n9 o9) n0 o0).none hn1'
  have lub : u.le (((u.ins n9 o9).ins n0 o0).ins n1 o1) := ((H.le_ins _ hu9).trans (H.le_ins _ hu0)).trans (H.le_ins _ hub1)
  have hbox : (((u.ins n9 o9).ins n0 o0).ins n1 o1) n9 = some o9 := (H.le_ins _ hub1) _ _ ((H.le_ins _ hu0) _ _ (H.ins_same _ _ _))
  have c0 : (((u.ins n9 o9).ins n0 o0).ins n1 o1).cell? ⟨n0, 0, none⟩ = some (.slice s.a s.n s.c) := by
    refine cell_ins_other ?_ hub1
    rw [← hob0]; exact H.cell?_of (H.ins_same _ _ _) 0
  have c1 : (((u.ins n9 o9).ins n0 o0).ins n1 o1).cell? ⟨n1, 0, none⟩ = some (.slice t.a t.n t.c) := by
    rw [← hob1]; exact H.cell?_of (H.ins_same _ _ _) 0
  generalize (((u.ins n9 o9).ins n0 o0).ins n1 o1) = ub at htop2 lub hbox c0 c1
  have hcell9 : ∀ w, ub.le w → w.cell? ⟨n9, 0, none⟩ = some (.pointer (some ⟨n, 0, none⟩)) := fun w hw => by
    have := hw _ _ hbox
    rw [← hob9] at this
    exact H.cell?_of this 0
  -- the loop
  refine RgS.code topkC_eq (RgS.intro (t := 34) htop2.le callOk (by simp) (by decide) (fun w hw => hits_iter (hs.mono (lub.trans hw)) (ht.mono (lub.trans hw)) hqok (H.cell?_mono hw c0) (H.cell?_mono hw c1))
    (fun i w => TopAt ub n k w ((l.map (hitOf q)).take i).reverse) htop2 (fun i v hj => hj.le) ?_ ?_)
  · intro i y v hy hj
    refine topk_round n9 y v _ _ (by simp) fun m hm => st_new3 ⟨rfl, rfl, ?_⟩
    obtain ⟨d0, d1, d2⟩ := cells3 (u := v) (m := m) (y := y) (T := 66)
    have hj' := hj.mono (H.le_ins (u := v) (b := m) (Obj.cells (encH y).toArray 66 (0, 0)) hm)
    refine ⟨_, hcell9 _ hj'.le, _, d0, _, d1, _, d2, spec.topk_Heap__Offer hj' k1 k2 fun b u' hj2 => ⟨rfl, ?_⟩⟩
    rw [take_map_succ _ _ _ _ hy, List.reverse_append]
    exact hj2
  · intro v D hj hD
    have hle := H.le_ins (u := v) (b := D) (Obj.deferred (some [])) hD
    have hj' := hj.mono hle
    refine ⟨_, hcell9 _ hj'.le, spec.topk_Heap__List hj' fun s' u' ho => ⟨ho.le _ _ (H.ins_same _ _ _), hok hqok k1 k2 s' _ ?_⟩⟩
    have hb : s'.blk ≠ some D := fun e => by have := ho.fresh D e; rw [H.ins_same] at this; cases this
    have ho2 := ho.weaken (lub.trans hj'.le)
    rw [List.length_map, List.take_of_length_le (by simp), topk_eq (List.reverse_perm _)] at ho2
    exact ho2.insOut ((lub.trans hj.le).none hD) hb _

end Go.Proofs.YtncgdoeobblnkaaGreat

/- VcFlat2 -/
namespace Go.Proofs.YtncgdoeobblnkaaGreat

/-- All within a radius, in their order. -/
def within (R : Int) (l : List Hit) : List Hit := sortH (l.filter fun h => decide (h.2 ≤ R))

theorem st_one {u : H} {n : Nat} {old v : Value} {T : TypeId} {f : H → Prop} (hn : u n = some (.cells #[old] T (0, 0))) (h1 : v.oneCell' = true) (hf : f (u.ins n (.cells #[v] T (0, 0)))) : H.St u ⟨n, 0, none⟩ [v] f :=
  ⟨_, _, hn, rfl, by simp, by simp [h1], hf⟩

end Go.Proofs.YtncgdoeobblnkaaGreat

/- VcBox -/
namespace Go.Proofs.YtncgdoeobblnkaaGreat

theorem build_int (x : Int) : buildOf Tryz.prog 41 1 #[(0, .int .i64 x)] = some (3, [.int .i64 x]) := by kernel_rfl

theorem own_ne_map {u0 u : H} {e k : Nat} {s : Sl} {xs : List Value} {b : Nat} {l : List Int} (h : OwnF u0 u e k s xs) (hb : SetOf u b l) : s.blk ≠ some b := by
  intro hx
  obtain ⟨es, c, hbm, _⟩ := hb
  rcases h.own.is with h0 | ⟨g, cur, ha, hg, _⟩
  · rw [h0] at hx; simp [Sl.blk] at hx
  · have : g = b := by simpa [Sl.blk, ha] using hx
    rw [this, hbm] at hg; cases hg

theorem take_ids {l : List Rw} {i : Nat} {r : Rw} (h : l[i]? = some r) : (l.take (i + 1)).map (·.id) = (l.take i).map (·.id) ++ [r.id] := by
  rw [List.take_add_one, h]; simp

theorem spec.vec_ids {s : Sl} {l : List Rw} {d : Int} {u : H} {K : Sl → Int → H → Prop} (hs : Rws u s l) (hok : Rok l d) (hK : ∀ s' u', OwnF u u' 3 1 s' ((sortI (l.map (·.id))).flatMap encI) → K s' 0 u') : C.vec_ids s d u K := by
  have hn := hs.len
  have hlen := hok.len
  apply vc.vec_ids
  refine ⟨fun h => by omega, fun _ => sem_makeMap fun b hb hset => ?_⟩
  refine ⟨fun _ _ s6 i v => 0 ≤ i ∧ i ≤ (s.n : Int) ∧ SetOf v b ((l.take i.toNat).map (·.id)) ∧ OwnF u v 3 1 s6 (((l.take i.toNat).map (·.id)).flatMap encI), fun _ _ _ i _ => s.n - i.toNat,
    ⟨by omega, by omega, by simpa using hset, OwnF.nil (H.le_ins _ hb) _ _⟩, ?_⟩
  rintro s4 x5 s6 i v ⟨i0, i1, hset, ho⟩
  refine ⟨fun hi => ?_, fun hi => ?_⟩
  · obtain ⟨p, hp, r, hr, c0, c1, hv⟩ := (hs.mono ho.le).at i0 hi
    have hrm := List.mem_of_getElem? hr
    have hid := hok.id r hrm
    obtain ⟨hvl, hvok⟩ := hok.v r hrm
    have hnew : r.id ∉ (l.take i.toNat).map (·.id) := by
      have hnd := hok.nodup
      have hsub : ((l.take (i.toNat + 1)).map (·.id)).Nodup := List.Nodup.sublist (List.Sublist.map _ (List.take_sublist _ _)) hnd
      rw [take_ids hr] at hsub
      exact fun hm => (List.nodup_append.1 hsub).2.2 _ hm _ (by simp) rfl
    have hvc : vcheck r.v d = 0 := by rw [← hvl]; exact ok_vcheck hvok (by have := hok.dim; omega)
    refine ⟨p, hp, ⟨i0, hi⟩, _, c0, _, c1, fun K12 hK12 => ⟨fun h => by omega, fun _ => ⟨fun h => by omega, fun _ => sem_lookup setTy hset ⟨fun h => absurd (by simpa using h) hnew, fun _ => hK12 _ _ _ ?_⟩⟩⟩⟩
    refine spec.vec_Check hv ⟨fun h => absurd hvc h, fun _ => sem_mapAdd setTy hset hnew fun v' hset' hkeep hkn => ?_⟩
    have hne := own_ne_map ho hset
    have ho' : OwnF u v' 3 1 s6 (((l.take i.toNat).map (·.id)).flatMap encI) :=
      ⟨ho.own.le fun g o hg hvg => hkeep g o hvg (fun e => hne (by rw [hg, e])), fun g o hg => hkeep g o (ho.le g o hg) (fun e => by rw [e, hb] at hg; cases hg), ho.fresh⟩
    have hn6 := ho'.ints.len
    simp only [List.length_map, List.length_take] at hn6
    refine sem_push' tInts (build_int _) (by decide) rfl (by simp [Value.oneCell']) ho' (by omega) (by omega) fun s' u' ho2 hn2 hel hbl _ => ⟨⟨by omega, by omega⟩, ⟨by omega, by omega, ?_, ?_⟩, by dsimp only; omega⟩
    · rw [show (i + 1).toNat = i.toNat + 1 by omega, take_ids hr]
      obtain ⟨es, c, h1, h2⟩ := hset'
      exact ⟨es, c, hel _ _ h1 hne, h2⟩
    · rw [show (i + 1).toNat = i.toNat + 1 by omega, take_ids hr, List.flatMap_append]
      exact ho2
  · have hi' : i.toNat = l.length := by omega
    rw [hi', List.take_length] at ho
    exact spec.slices_Sort___int_int_ ho (by simp; omega) fun u' ho' _ => hK s6 u' ho'

/-- The least, the greatest of coordinates, row by row. -/
def mnL (acc v : List Int) : List Int := List.zipWith (fun a x => if x < a then x else a) acc v
def mxL (acc v : List Int) : List Int := List.zipWith (fun a x => if x > a then x else a) acc v

def boxLo (l : List Rw) : List Int := l.foldl (fun acc r => mnL acc r.v) (l.headD ⟨0, ⟨none, 0, 0⟩, []⟩).v
def boxHi (l : List Rw) : List Int := l.foldl (fun acc r => mxL acc r.v) (l.headD ⟨0, ⟨none, 0, 0⟩, []⟩).v

end Go.Proofs.YtncgdoeobblnkaaGreat

/- VcSearch -/
namespace Go.Proofs.YtncgdoeobblnkaaGreat

theorem tRows : elemT Tryz.prog 22 = some (43, 2, 32, [.int .i64 0, .slice none 0 0]) := by kernel_rfl

theorem Rws.part {u : H} {s : Sl} {L : List Rw} (hs : Rws u s L) {l h m : Nat} (h1 : l ≤ h) (h2 : h ≤ s.n) (h3 : h ≤ m) (h4 : m ≤ s.c) : Rws u (s.part l h m 2) ((L.drop l).take (h - l)) := by
  refine ⟨?_, fun r hr => hs.2 r (List.mem_of_mem_drop (List.mem_of_mem_take hr))⟩
  have := Seg.part hs.1 h1 h2 h3 h4
  rw [flat_drop encR_len, flat_take encR_len] at this
  exact this

theorem Rok.sub {l l' : List Rw} {d : Int} (h : Rok l d) (hs : l'.Sublist l) : Rok l' d :=
  ⟨h.dim, Nat.le_trans hs.length_le h.len, fun r hr => h.id r (hs.mem hr), h.nodup.sublist (hs.map _), fun r hr => h.v r (hs.mem hr)⟩

theorem Qok.sub {l l' : List Rw} {q : List Int} (h : Qok l q) (hs : l'.Sublist l) : Qok l' q := ⟨h.vq, h.rows.sub hs⟩

theorem build_region (a b c : Sl) (x y z : Int) : buildOf Tryz.prog 51 1 #[(0, .agg #[.int .i64 x, .slice a.a a.n a.c, .slice b.a b.n b.c, .int .u64 y, .int .u64 z, .slice c.a c.n c.c])] =
    some (93, [.int .i64 x, .slice a.a a.n a.c, .slice b.a b.n b.c, .int .u64 y, .int .u64 z, .slice c.a c.n c.c]) := by kernel_rfl

/-- An answer in memory: its hits, what was seen, what was left (a box of these rows, or nothing). -/
structure AnsAt (u0 u : H) (sh ss sr : Sl) (hits : List Hit) (seen : List Int) (rest : List Rw) : Prop where
  h : OwnF u0 u 66 3 sh (hits.flatMap encH)
  s : OwnF u0 u 3 1 ss (seen.flatMap encI)
  hs : ∀ g, sh.blk = some g → ss.blk ≠ some g
  r : (rest = [] ∧ sr = ⟨none, 0, 0⟩) ∨ rest ≠ [] ∧ sr.n = 1 ∧ ∃ a b c : Sl, OwnF u0 u 93 6 sr [.int .i64 2, .slice a.a a.n a.c, .slice b.a b.n b.c, .int .u64 0, .int .u64 0, .slice c.a c.n c.c] ∧
    OwnF u0 u 3 1 a ((boxLo rest).flatMap encI) ∧ OwnF u0 u 3 1 b ((boxHi rest).flatMap encI) ∧ OwnF u0 u 3 1 c ((sortI (rest.map (·.id))).flatMap encI) ∧
    a.blk ≠ b.blk ∧ a.blk ≠ c.blk ∧ b.blk ≠ c.blk ∧ (∀ x ∈ [a, b, c], ∀ g, x.blk = some g → sh.blk ≠ some g ∧ ss.blk ≠ some g ∧ sr.blk ≠ some g) ∧ (∀ g, sr.blk = some g → sh.blk ≠ some g ∧ ss.blk ≠ some g)

theorem own_known {u0 u : H} {e k : Nat} {s : Sl} {xs : List Value} (h : OwnF u0 u e k s xs) {g : Nat} (hg : s.blk = some g) : u g ≠ none := by
  rcases h.own.is with h0 | ⟨g', cur, ha, hg', _⟩
  · rw [h0] at hg; simp [Sl.blk] at hg
  · have : g' = g := by simpa [Sl.blk, ha] using hg
    rw [← this, hg']; simp

end Go.Proofs.YtncgdoeobblnkaaGreat

/- VcLawA -/
namespace Go.Proofs.YtncgdoeobblnkaaGreat

/-- Rows and a vector as they come in. -/
structure Come (u : H) (s t : Sl) (l : List Rw) (q : List Int) : Prop where
  rows : Rws u s l
  q : Ints u t q
  small : ∀ r ∈ l, r.v.length ≤ 17592186044416
  sn : s.n ≤ 17592186044416

theorem Come.mono {u u' : H} {s t : Sl} {l : List Rw} {q : List Int} (h : Come u s t l q) (k : u.le u') : Come u' s t l q := ⟨h.rows.mono k, h.q.mono k, h.small, h.sn⟩

/-! ### within a radius -/

theorem Hts.part {u : H} {s : Sl} {L : List Hit} (hs : Hts u s L) {l h m : Nat} (h1 : l ≤ h) (h2 : h ≤ s.n) (h3 : h ≤ m) (h4 : m ≤ s.c) : Hts u (s.part l h m 3) ((L.drop l).take (h - l)) := by
  have := Seg.part hs h1 h2 h3 h4
  rw [flat_drop encH_len, flat_take encH_len] at this
  exact this

/-! ### the document's examples -/

end Go.Proofs.YtncgdoeobblnkaaGreat

/- VcOpen -/
namespace Go.Proofs.YtncgdoeobblnkaaGreat
open Go.ChangeShapes Go.WideShapes Go.ChangeAt Go.RowKit

/-- All that lies in memory. -/
def whole (W : World) : H := fun b => W.heap[b]?

theorem whole_sub (W : World) : Sub (whole W) W := fun _ _ e => e
theorem whole_cell (W : World) (a : Addr) : (whole W).cell? a = W.cell? a := rfl

theorem Step.below {W W' : World} {u' : H} {bs : List Nat} (h : Step (whole W) [] W u' bs W') (k : (whole W).le u') : Below W.heap.size W W' :=
  ⟨h.os, h.tape, h.output, h.size, fun b hb => by
    have : W.heap[b]? = some W.heap[b] := Array.getElem?_eq_getElem hb
    rw [this]
    exact h.sub b _ (k b _ this)⟩

theorem cells3o : Tryz.prog.cellsOf 3 = 1 := by kernel_rfl
theorem cells23o : Tryz.prog.cellsOf 41 = 1 := by kernel_rfl
theorem cells41o : Tryz.prog.cellsOf 43 = 2 := by kernel_rfl
theorem cells24o : Tryz.prog.cellsOf 23 = 1 := by kernel_rfl
theorem cells26o : Tryz.prog.cellsOf 64 = 2 := by kernel_rfl
theorem bytes3o : Tryz.prog.bytesOf 3 = 8 := by kernel_rfl
theorem bytes41o : Tryz.prog.bytesOf 43 = 32 := by kernel_rfl

section
variable {H' : Type} {enc : TypeId × Value → H'}

theorem weights_all {P : Program} {e : TypeId} {d : DataW H'} : ∀ {ds : List (DataW H')} {i : Nat}, ds[i]? = some d → ∀ n ∈ d.weights P e, n ∈ DataW.weightsAll P e ds := by
  intro ds
  induction ds with
  | nil => intro i h; simp at h
  | cons x ds ih =>
    intro i h n hn
    simp only [DataW.weightsAll, List.mem_append]
    cases i with
    | zero => simp at h; subst h; exact .inl hn
    | succ i => exact .inr (ih (by simpa using h) n hn)

/-- Numbers, opened. -/
theorem open_q {W : World} {a : Option Addr} {len cap fuel : Nat} {x : DataW H' × List MemPlace} (h : DataW.trod enc Tryz.prog W 0 (fun _ => true) true fuel 41 [.slice a len cap] = some x) (hw : ∀ n ∈ x.1.weights Tryz.prog 41, n ≤ reachBytes) :
    ∃ q : List Int, Ints (whole W) ⟨a, len, cap⟩ q ∧ q.length ≤ 17592186044416 := by
  have hr : reachBytes = 140737488351232 := by decide
  rcases open_ints Tryz.underlying41 Tryz.underlying3 cells3o h with ⟨hcs, _⟩ | ⟨p, l, c, zs, hcs, _, hl, hm, hz, hx, hcell, hwz⟩
  · simp only [List.cons.injEq, Value.slice.injEq, and_true] at hcs
    obtain ⟨rfl, rfl, rfl⟩ := hcs
    exact ⟨[], ⟨rfl, Nat.le_refl _, by simp, .inl rfl⟩, by simp⟩
  · simp only [List.cons.injEq, Value.slice.injEq, and_true] at hcs
    obtain ⟨rfl, rfl, rfl⟩ := hcs
    simp only [if_true] at hz
    rw [maxLen_eq] at hm
    have hlt : (zs.take len).length = len := by simp; omega
    have hb : zs.length * 8 ≤ reachBytes := by
      have := hw (zs.length * 8) (by
        rw [hx]
        simp only [DataW.weights, show Tryz.prog.underlying 41 = some (.slice 3) from Tryz.underlying41, List.mem_cons]
        left
        rw [bytes3o]
        congr 1
        simp [lits]
        omega)
      exact this
    refine ⟨zs.take len, ⟨by simp; omega, hl, hm, .inr ⟨p, rfl, fun i v e => ?_⟩⟩, by omega⟩
    rw [List.getElem?_map] at e
    rw [whole_cell]
    have hi : i < len := by
      rcases Nat.lt_or_ge i len with k | k
      · exact k
      · rw [List.getElem?_eq_none (by omega)] at e; simp at e
    rw [List.getElem?_take, if_pos hi, List.getElem?_eq_getElem (by omega)] at e
    simp only [Option.map_some, Option.some.injEq] at e
    subst e
    rw [hcell i (by omega), List.getD_eq_getElem?_getD, List.getElem?_eq_getElem (by omega)]
    rfl

instance : Inhabited Rw := ⟨⟨0, ⟨none, 0, 0⟩, []⟩⟩

theorem cells_one {W : World} {v : Value} {fuel : Nat} {x : DataW H' × List MemPlace} (h : DataW.trod enc Tryz.prog W 0 (fun _ => true) true fuel 41 [v] = some x) : ∃ s : Sl, v = .slice s.a s.n s.c := by
  rcases open_ints Tryz.underlying41 Tryz.underlying3 cells3o h with ⟨hcs, _⟩ | ⟨p, l, c, zs, hcs, _⟩
  · exact ⟨⟨none, 0, 0⟩, by simpa using hcs⟩
  · exact ⟨⟨some p, l, c⟩, by simpa using hcs⟩

/-- Rows, opened. -/
theorem open_rows {W : World} {a : Option Addr} {len cap fuel : Nat} {x : DataW H' × List MemPlace} (h : DataW.trod enc Tryz.prog W 0 (fun _ => true) true fuel 22 [.slice a len cap] = some x) (hw : ∀ n ∈ x.1.weights Tryz.prog 22, n ≤ reachBytes) :
    ∃ l : List Rw, Rws (whole W) ⟨a, len, cap⟩ l ∧ (∀ r ∈ l, r.v.length ≤ 17592186044416) ∧ len ≤ 17592186044416 := by
  have hr : reachBytes = 140737488351232 := by decide
  rcases Deep.open_slice Tryz.underlying22 h with ⟨hcs, _⟩ | ⟨p, l, c, m, n, D, Pl, hcs, hb, hl, hm, hmm, hx, hel⟩
  · simp only [List.cons.injEq, Value.slice.injEq, and_true] at hcs
    obtain ⟨rfl, rfl, rfl⟩ := hcs
    exact ⟨[], ⟨⟨rfl, Nat.le_refl _, by simp, .inl rfl⟩, fun _ h => (by cases h)⟩, fun _ h => (by cases h), by omega⟩
  simp only [List.cons.injEq, Value.slice.injEq, and_true] at hcs
  obtain ⟨rfl, rfl, rfl⟩ := hcs
  simp only [if_true] at hmm
  subst hmm
  rw [maxLen_eq] at hm
  have hwt : ∀ k, k ∈ (((List.range len).map D).length + ((List.range (m - len)).map fun j => D (len + j)).length) * Tryz.prog.bytesOf 43 :: (DataW.weightsAll Tryz.prog 43 ((List.range len).map D) ++ DataW.weightsAll Tryz.prog 43 ((List.range (m - len)).map fun j => D (len + j))) → k ≤ reachBytes := by
    intro k hk
    refine hw k ?_
    rw [hx]
    simp only [DataW.weights, show Tryz.prog.underlying 22 = some (.slice 43) from Tryz.underlying22]
    exact hk
  have hcb : len * 32 ≤ reachBytes := by
    have := hwt _ (List.mem_cons_self ..)
    rw [bytes41o] at this
    simp at this
    have e : len + (m - len) = m := by omega
    omega
  have each : ∀ i, i < len → ∃ r : Rw, W.cell? (p.add (i * 2)) = some (.int .i64 r.id) ∧ W.cell? ((p.add (i * 2)).add 1) = some (.slice r.s.a r.s.n r.s.c) ∧ Ints (whole W) r.s r.v ∧ r.v.length ≤ 17592186044416 := by
    intro i hi
    obtain ⟨cs', h1, h2⟩ := hel i (by omega)
    rw [cells41o] at h1
    obtain ⟨_, hlen, hcell⟩ := World.cells?_some h1
    obtain ⟨y0, y1, k, hxy, _, u0, u1⟩ := trod_struct2 Tryz.underlying43 h2
    match cs', hlen with
    | [v0, v1], _ =>
      simp only [cells3o, cells23o, List.drop, List.take] at u0 u1
      obtain ⟨q, e0, d0, _⟩ := DataW.trod_int Tryz.underlying3 u0
      simp only [List.cons.injEq, and_true] at e0
      subst e0
      obtain ⟨s, rfl⟩ := cells_one u1
      have hwi : ∀ n ∈ y1.1.weights Tryz.prog 41, n ≤ reachBytes := by
        intro n hn
        refine hwt n (List.mem_cons_of_mem _ (List.mem_append_left _ (weights_all (i := i) (d := D i) (by simp [hi]) n ?_)))
        have hDi : D i = .agg [y0.1, y1.1] := (Prod.mk.inj hxy).1
        rw [hDi]
        simp only [DataW.weights, show Tryz.prog.underlying 43 = some _ from Tryz.underlying43]
        simp only [List.map_cons, List.map_nil, DataW.weightsEach, List.mem_append]
        exact .inr (.inl hn)
      obtain ⟨zs, hz, hzl⟩ := open_q u1 hwi
      have c0 := hcell 0 (by omega)
      have c1 := hcell 1 (by omega)
      exact ⟨⟨q, s, zs⟩, c0, c1, hz, hzl⟩
  obtain ⟨f, hf⟩ := Deep.choose_lt each
  have hfl : ((List.range len).map f).length = len := by simp
  refine ⟨(List.range len).map f, ⟨⟨?_, hl, hm, .inr ⟨p, rfl, fun j v e => ?_⟩⟩, fun r hr => ?_⟩, fun r hr => ?_, by omega⟩
  · rw [flat_len encR_len, hfl]
  · have hj : j < len * 2 := by
      have := (List.getElem?_eq_some_iff.1 e).1
      rw [flat_len encR_len, hfl] at this
      exact this
    have e1 : j = j / 2 * 2 + j % 2 := by omega
    have hd : j / 2 < len := by omega
    rw [whole_cell]
    rw [e1, flat_get encR_len _ _ _ (Nat.mod_lt _ (by decide))] at e
    rw [List.getElem?_map, List.getElem?_range hd] at e
    simp only [Option.map_some, Option.bind_some] at e
    obtain ⟨g0, g1, _, _⟩ := hf (j / 2) hd
    rw [e1, ← Addr.add_add']
    have hm2 : j % 2 = 0 ∨ j % 2 = 1 := by omega
    rcases hm2 with hm2 | hm2
    · rw [hm2] at e ⊢
      simp only [encR, List.getElem?_cons_zero, Option.some.injEq] at e
      subst e
      exact g0
    · rw [hm2] at e ⊢
      simp only [encR, List.getElem?_cons_succ, List.getElem?_cons_zero, Option.some.injEq] at e
      subst e
      exact g1
  · obtain ⟨i, hi, rfl⟩ := List.mem_map.1 hr
    exact (hf i (by simpa using hi)).2.2.1
  · obtain ⟨i, hi, rfl⟩ := List.mem_map.1 hr
    exact (hf i (by simpa using hi)).2.2.2

end

end Go.Proofs.YtncgdoeobblnkaaGreat

/- VcMul -/
namespace Go.Proofs.YtncgdoeobblnkaaGreat

/-- The number that digits tell, the lowest first. -/
def NV : List Int → Int
  | [] => 0
  | x :: xs => x + 65536 * NV xs

def pB (i : Nat) : Int := (65536 ^ i : Nat)
theorem pB_zero : pB 0 = 1 := rfl
theorem pB_succ (i : Nat) : pB (i + 1) = 65536 * pB i := by
  show ((65536 ^ (i + 1) : Nat) : Int) = 65536 * ((65536 ^ i : Nat) : Int)
  rw [Nat.pow_succ, Int.natCast_mul]
  exact Int.mul_comm _ _
theorem pB_pos (i : Nat) : 1 ≤ pB i := Int.natCast_pos.2 (Nat.pow_pos (by decide))
theorem pB_add (i j : Nat) : pB (i + j) = pB i * pB j := by
  show ((65536 ^ (i + j) : Nat) : Int) = ((65536 ^ i : Nat) : Int) * ((65536 ^ j : Nat) : Int)
  rw [Nat.pow_add, Int.natCast_mul]

theorem NV_set : ∀ (d : List Int) (i : Nat) (x : Int), i < d.length → NV (d.set i x) = NV d + (x - d.getD i 0) * pB i := by
  intro d
  induction d with
  | nil => intro i x h; simp at h
  | cons y d ih =>
    intro i x h
    cases i with
    | zero => simp [NV, pB_zero]; omega
    | succ i =>
      simp only [List.set_cons_succ, NV, List.getD_cons_succ, pB_succ]
      rw [ih i x (by simpa using h), Int.mul_add]
      have : 65536 * ((x - d.getD i 0) * pB i) = (x - d.getD i 0) * (65536 * pB i) := by rw [← Int.mul_assoc, Int.mul_comm 65536, Int.mul_assoc]
      omega

def Dig (d : List Int) : Prop := d.length = 8 ∧ ∀ x ∈ d, 0 ≤ x ∧ x < 65536

theorem NV_nonneg : ∀ {d : List Int}, (∀ x ∈ d, 0 ≤ x ∧ x < 65536) → 0 ≤ NV d := by
  intro d
  induction d with
  | nil => intro _; exact Int.le_refl _
  | cons y d ih =>
    intro h
    have h1 := h y (List.mem_cons_self ..)
    have h2 := ih fun x hx => h x (List.mem_cons_of_mem _ hx)
    simp only [NV]
    omega

theorem NV_lt : ∀ {d : List Int}, (∀ x ∈ d, 0 ≤ x ∧ x < 65536) → NV d < pB d.length := by
  intro d
  induction d with
  | nil => intro _; decide
  | cons y d ih =>
    intro h
    have h1 := h y (List.mem_cons_self ..)
    have h2 := ih fun x hx => h x (List.mem_cons_of_mem _ hx)
    simp only [NV, List.length_cons, pB_succ]
    omega

theorem NV_app : ∀ (a b : List Int), NV (a ++ b) = NV a + pB a.length * NV b := by
  intro a
  induction a with
  | nil => intro b; simp [NV, pB_zero]
  | cons y a ih =>
    intro b
    simp only [List.cons_append, NV, List.length_cons, pB_succ]
    rw [ih, Int.mul_add, ← Int.mul_assoc]
    omega

theorem Dig.set {d : List Int} (h : Dig d) {i : Nat} {x : Int} (h0 : 0 ≤ x) (h1 : x < 65536) : Dig (d.set i x) :=
  ⟨by rw [List.length_set]; exact h.1, fun y hy => by
    rcases List.mem_or_eq_of_mem_set hy with h2 | h2
    · exact h.2 y h2
    · omega⟩

theorem Dig.get {d : List Int} (h : Dig d) {i : Nat} (hi : i < 8) : 0 ≤ d.getD i 0 ∧ d.getD i 0 < 65536 := by
  have hl : i < d.length := by rw [h.1]; exact hi
  rw [List.getD_eq_getElem?_getD, List.getElem?_eq_getElem hl]
  exact h.2 _ (List.getElem_mem hl)

theorem num_cell {u : H} {n : Nat} {d : List Int} {T : TypeId} (hd : d.length = 8) {i : Nat} (hi : i < 8) : (u.ins n (.cells (numC d) T (0, 0))).cell? ⟨n, i, none⟩ = some (.int .i64 (d.getD i 0)) := by
  rw [H.cell?_ins]
  have hl : i < d.length := by omega
  simp [numC, List.getElem?_append, hl, List.getD_eq_getElem?_getD]

theorem num_cell' {u : H} {n : Nat} {d : List Int} {T : TypeId} (hd : d.length = 8) {i : Int} (h0 : 0 ≤ i) (hi : i < 8) : (u.ins n (.cells (numC d) T (0, 0))).cell? ((Addr.mk n 0 none).add (i.toNat * 1)) = some (.int .i64 (d.getD i.toNat 0)) := by
  rw [Nat.mul_one, Addr.add_lit, Nat.zero_add]
  exact num_cell hd (by omega)

theorem num_over {u : H} {n : Nat} {d : List Int} {T : TypeId} (hd : d.length = 8) : (u.ins n (.cells (numC d) T (0, 0))).cell? ⟨n, 8, none⟩ = some (.bool false) := by
  rw [H.cell?_ins]
  simp [numC, hd]

theorem dig8 {d : List Int} (h : d.length = 8) : d = [d.getD 0 0, d.getD 1 0, d.getD 2 0, d.getD 3 0, d.getD 4 0, d.getD 5 0, d.getD 6 0, d.getD 7 0] := by
  match d, h with
  | [a, b, c, e, f, g, i, j], _ => rfl

theorem spec.theodoliteref01_Num__plus {d : List Int} {at' v : Int} {u : H} {K : Int → Int → Int → Int → Int → Int → Int → Int → Bool → H → Prop} (hd : Dig d) (h0 : 0 ≤ at') (h9 : at' ≤ 100) (hv : 0 ≤ v) (hv1 : v < 4611686018427387904) (hs : 0 < v → NV d + v * pB at'.toNat < pB 8)
    (h : ∀ d' : List Int, Dig d' → NV d' = NV d + v * pB at'.toNat → K (d'.getD 0 0) (d'.getD 1 0) (d'.getD 2 0) (d'.getD 3 0) (d'.getD 4 0) (d'.getD 5 0) (d'.getD 6 0) (d'.getD 7 0) false u) :
    C.theodoliteref01_Num__plus (d.getD 0 0) (d.getD 1 0) (d.getD 2 0) (d.getD 3 0) (d.getD 4 0) (d.getD 5 0) (d.getD 6 0) (d.getD 7 0) false at' v u K := by
  refine ClT.forget (ss := [.agg [.int .i64, .int .i64, .int .i64, .int .i64, .int .i64, .int .i64, .int .i64, .int .i64, .bool]]) ?_
  apply vc.theodoliteref01_Num__plus
  intro n hn
  have e8 : (#[Value.int .i64 (d.getD 0 0), .int .i64 (d.getD 1 0), .int .i64 (d.getD 2 0), .int .i64 (d.getD 3 0), .int .i64 (d.getD 4 0), .int .i64 (d.getD 5 0), .int .i64 (d.getD 6 0), .int .i64 (d.getD 7 0), .bool false] : Array Value) = numC d := by
    conv => rhs; rw [dig8 hd.1]
    rfl
  rw [e8]
  refine ⟨fun x a _ _ _ _ _ _ _ _ _ w => 0 ≤ x ∧ x < 4611686018427387904 ∧ 0 ≤ a ∧ at' ≤ a ∧ (a ≤ 8 ∨ v = 0) ∧ a ≤ 100 ∧ ∃ e, Dig e ∧ w = u.ins n (.cells (numC e) 156 (0, 0)) ∧ NV e + x * pB a.toNat = NV d + v * pB at'.toNat ∧ (v = 0 → x = 0),
    fun _ a _ _ _ _ _ _ _ _ _ _ => (9 - a).toNat, ⟨hv, hv1, h0, Int.le_refl _, ?_, h9, d, hd, rfl, rfl, fun e => e⟩, ?_⟩
  · by_cases e : v = 0
    · exact .inr e
    · left
      have hs' := hs (by omega)
      by_cases hle : at' ≤ 8
      · exact hle
      · exfalso
        have h1 := NV_nonneg hd.2
        have h2 : pB at'.toNat = pB (at'.toNat - 8) * pB 8 := by rw [← pB_add]; congr 1; omega
        have h3 := pB_pos (at'.toNat - 8)
        have h4 := pB_pos 8
        have h5 : pB 8 ≤ pB (at'.toNat - 8) * pB 8 := by
          have := Int.mul_le_mul_of_nonneg_right h3 (by omega : 0 ≤ pB 8)
          omega
        have h6 : pB at'.toNat ≤ v * pB at'.toNat := by
          have := Int.mul_le_mul_of_nonneg_right (show 1 ≤ v by omega) (show 0 ≤ pB at'.toNat by have := pB_pos at'.toNat; omega)
          omega
        omega
  rintro x a _ _ _ _ _ _ _ _ _ w ⟨x0, x1, a0, a1, a2, a3, e, he, rfl, hval, hz⟩
  refine ⟨fun hx => ⟨fun h8 => ?_, fun h8 => ?_⟩, fun hx => ?_⟩
  · exfalso
    have hvp : 0 < v := by
      by_cases e : v = 0
      · have := hz e; omega
      · omega
    have hs' := hs hvp
    have ha8 : a = 8 := by omega
    subst ha8
    have h1 := NV_nonneg he.2
    have h4 := pB_pos 8
    have h6 : pB 8 ≤ x * pB 8 := by
      have := Int.mul_le_mul_of_nonneg_right (show 1 ≤ x by omega) (show 0 ≤ pB 8 by omega)
      omega
    have e8 : pB (8 : Int).toNat = pB 8 := rfl
    rw [e8] at hval
    omega
  · have hg := he.get (i := a.toNat) (by omega)
    have t1 : Int.tmod (x + e.getD a.toNat 0) 65536 = (x + e.getD a.toNat 0) % 65536 := Int.tmod_eq_emod_of_nonneg (by omega)
    have t2 : Int.tdiv (x + e.getD a.toNat 0) 65536 = (x + e.getD a.toNat 0) / 65536 := Int.tdiv_eq_ediv_of_nonneg (by omega)
    refine ⟨by decide, ⟨a0, by omega⟩, _, num_cell' he.1 a0 (by omega), ⟨by omega, by omega⟩, by decide, by decide, ⟨a0, by omega⟩, ?_⟩
    rw [t1, t2]
    refine st_num he.1 (by omega) ⟨by decide, ⟨by omega, by omega⟩, ⟨by omega, by omega⟩, ⟨by omega, by omega, by omega, by omega, by omega, by omega, _, he.set (by omega) (by omega), rfl, ?_, fun e => by have := hz e; omega⟩, by dsimp only; omega⟩
    rw [NV_set _ _ _ (by rw [he.1]; omega), show (a + 1).toNat = a.toNat + 1 by omega, pB_succ, ← hval]
    have key : (x + e.getD a.toNat 0) % 65536 + 65536 * ((x + e.getD a.toNat 0) / 65536) = x + e.getD a.toNat 0 := Int.emod_add_mul_ediv _ _
    generalize (x + e.getD a.toNat 0) % 65536 = r at *
    generalize (x + e.getD a.toNat 0) / 65536 = s at *
    generalize pB a.toNat = p at *
    have k1 : s * (65536 * p) = (65536 * s) * p := by rw [← Int.mul_assoc, Int.mul_comm s]
    rw [k1, Int.add_assoc, ← Int.add_mul]
    congr 2
    omega
  · have hx0 : x = 0 := by omega
    refine ⟨_, num_cell he.1 (i := 0) (by omega), _, num_cell he.1 (i := 1) (by omega), _, num_cell he.1 (i := 2) (by omega), _, num_cell he.1 (i := 3) (by omega), _, num_cell he.1 (i := 4) (by omega), _, num_cell he.1 (i := 5) (by omega), _, num_cell he.1 (i := 6) (by omega), _, num_cell he.1 (i := 7) (by omega), _, num_over he.1, H.le_ins _ hn, h e he ?_⟩
    rw [← hval, hx0]
    simp

end Go.Proofs.YtncgdoeobblnkaaGreat

/- VcMul2 -/
namespace Go.Proofs.YtncgdoeobblnkaaGreat

theorem NV_take_succ {d : List Int} {k : Nat} (hk : k < d.length) : NV (d.take (k + 1)) = NV (d.take k) + d.getD k 0 * pB k := by
  rw [List.take_add_one, NV_app, List.length_take, Nat.min_eq_left (by omega), List.getElem?_eq_getElem hk, List.getD_eq_getElem?_getD, List.getElem?_eq_getElem hk]
  simp [NV, Int.mul_comm]

theorem NV_take_le {d : List Int} (hd : ∀ x ∈ d, 0 ≤ x ∧ x < 65536) (k : Nat) : NV (d.take k) ≤ NV d := by
  have h1 := NV_app (d.take k) (d.drop k)
  rw [List.take_append_drop] at h1
  have h2 : 0 ≤ NV (d.drop k) := NV_nonneg fun x hx => hd x (List.mem_of_mem_drop hx)
  have h3 : 0 ≤ pB (d.take k).length * NV (d.drop k) := Int.mul_nonneg (by have := pB_pos (d.take k).length; omega) h2
  omega

theorem mul_bounds {x y : Int} (hx : 0 ≤ x ∧ x < 65536) (hy : 0 ≤ y ∧ y < 65536) : 0 ≤ x * y ∧ x * y ≤ 4294836225 := by
  refine ⟨Int.mul_nonneg hx.1 hy.1, ?_⟩
  have := Int.mul_le_mul (show x ≤ 65535 by omega) (show y ≤ 65535 by omega) hy.1 (by omega)
  omega

theorem spec.theodoliteref01_Num__Times {a b : List Int} {u : H} {K : Int → Int → Int → Int → Int → Int → Int → Int → Bool → H → Prop} (ha : Dig a) (hb : Dig b) (hs : NV a * NV b < pB 8)
    (h : ∀ d' : List Int, Dig d' → NV d' = NV a * NV b → K (d'.getD 0 0) (d'.getD 1 0) (d'.getD 2 0) (d'.getD 3 0) (d'.getD 4 0) (d'.getD 5 0) (d'.getD 6 0) (d'.getD 7 0) false u) :
    C.theodoliteref01_Num__Times (a.getD 0 0) (a.getD 1 0) (a.getD 2 0) (a.getD 3 0) (a.getD 4 0) (a.getD 5 0) (a.getD 6 0) (a.getD 7 0) false (b.getD 0 0) (b.getD 1 0) (b.getD 2 0) (b.getD 3 0) (b.getD 4 0) (b.getD 5 0) (b.getD 6 0) (b.getD 7 0) false u K := by
  refine ClT.forget (ss := [.agg [.int .i64, .int .i64, .int .i64, .int .i64, .int .i64, .int .i64, .int .i64, .int .i64, .bool]]) ?_
  apply vc.theodoliteref01_Num__Times
  have e8 : ∀ {d : List Int}, Dig d → (#[Value.int .i64 (d.getD 0 0), .int .i64 (d.getD 1 0), .int .i64 (d.getD 2 0), .int .i64 (d.getD 3 0), .int .i64 (d.getD 4 0), .int .i64 (d.getD 5 0), .int .i64 (d.getD 6 0), .int .i64 (d.getD 7 0), .bool false] : Array Value) = numC d := fun hd => by
    conv => rhs; rw [dig8 hd.1]
    rfl
  rw [e8 ha, e8 hb]
  intro n hn m hm
  have hnm : m ≠ n := fun e => by rw [e, H.ins_same] at hm; cases hm
  have hle : u.le ((u.ins n (.cells (numC a) 156 (0, 0))).ins m (.cells (numC b) 156 (0, 0))) := (H.le_ins _ hn).trans (H.le_ins _ hm)
  have hcell : ∀ (x : Addr), x.block = n → ((u.ins n (.cells (numC a) 156 (0, 0))).ins m (.cells (numC b) 156 (0, 0))).cell? x = (u.ins n (.cells (numC a) 156 (0, 0))).cell? x := fun x hx => by
    unfold H.cell?
    rw [hx, H.ins_other _ _ (Ne.symm hnm)]
  have ca : ∀ {i : Int}, 0 ≤ i → i < 8 → ((u.ins n (.cells (numC a) 156 (0, 0))).ins m (.cells (numC b) 156 (0, 0))).cell? ((Addr.mk n 0 none).add (i.toNat * 1)) = some (.int .i64 (a.getD i.toNat 0)) := fun h0 h1 => by
    rw [Nat.mul_one, Addr.add_lit, Nat.zero_add, hcell _ rfl]
    exact num_cell ha.1 (by omega)
  have cb : ∀ {i : Int}, 0 ≤ i → i < 8 → ((u.ins n (.cells (numC a) 156 (0, 0))).ins m (.cells (numC b) 156 (0, 0))).cell? ((Addr.mk m 0 none).add (i.toNat * 1)) = some (.int .i64 (b.getD i.toNat 0)) := fun h0 h1 => num_cell' hb.1 h0 h1
  have oa : ((u.ins n (.cells (numC a) 156 (0, 0))).ins m (.cells (numC b) 156 (0, 0))).cell? ((Addr.mk n 0 none).add 8) = some (.bool false) := by
    rw [hcell _ rfl]
    exact num_over ha.1
  have ob : ((u.ins n (.cells (numC a) 156 (0, 0))).ins m (.cells (numC b) 156 (0, 0))).cell? ((Addr.mk m 0 none).add 8) = some (.bool false) := num_over hb.1
  generalize ((u.ins n (.cells (numC a) 156 (0, 0))).ins m (.cells (numC b) 156 (0, 0))) = u2 at *
  intro K2 hK2
  refine ⟨false, oa, fun e => (by cases e), fun _ => ⟨false, ob, hK2 _ _ _ _ _ _ _ _ _ _ ?_⟩⟩
  refine ⟨fun i x0 x1 x2 x3 x4 x5 x6 x7 o w => w = u2 ∧ 0 ≤ i ∧ i ≤ 8 ∧ o = false ∧ Dig [x0, x1, x2, x3, x4, x5, x6, x7] ∧ NV [x0, x1, x2, x3, x4, x5, x6, x7] = NV (a.take i.toNat) * NV b, fun i _ _ _ _ _ _ _ _ _ _ => (8 - i).toNat,
    ⟨rfl, by omega, by omega, rfl, ⟨rfl, fun x hx => by simp at hx; omega⟩, by simp [NV]⟩, ?_⟩
  rintro i x0 x1 x2 x3 x4 x5 x6 x7 o w ⟨rfl, i0, i8, rfl, hd, hv⟩
  refine ⟨fun hi => ?_, fun hi => ⟨hle, ?_⟩⟩
  · refine ⟨fun k y0 y1 y2 y3 y4 y5 y6 y7 o w' => w' = w ∧ 0 ≤ k ∧ k ≤ 8 ∧ o = false ∧ Dig [y0, y1, y2, y3, y4, y5, y6, y7] ∧ NV [y0, y1, y2, y3, y4, y5, y6, y7] = NV (a.take i.toNat) * NV b + a.getD i.toNat 0 * pB i.toNat * NV (b.take k.toNat), fun k _ _ _ _ _ _ _ _ _ _ => (8 - k).toNat,
      ⟨rfl, by omega, by omega, rfl, hd, by rw [hv]; simp [NV]⟩, ?_⟩
    rintro k y0 y1 y2 y3 y4 y5 y6 y7 o w' ⟨rfl, k0, k8, rfl, hdk, hvk⟩
    have hia : i.toNat < a.length := by rw [ha.1]; omega
    have hai := ha.get (i := i.toNat) (by omega)
    have e1 := NV_take_succ hia
    refine ⟨fun hk => ?_, fun hk => ?_⟩
    · have hkb : k.toNat < b.length := by rw [hb.1]; omega
      have hbk := hb.get (i := k.toNat) (by omega)
      have e2 := NV_take_succ hkb
      have hp := mul_bounds hai hbk
      have hPi := pB_pos i.toNat
      have hPk := pB_pos k.toNat
      have e3 : pB (i + k).toNat = pB i.toNat * pB k.toNat := by rw [← pB_add]; congr 1; omega
      have hB := NV_nonneg hb.2
      have l1 : NV (b.take (k.toNat + 1)) ≤ NV b := NV_take_le hb.2 _
      have l2 : NV (a.take (i.toNat + 1)) ≤ NV a := NV_take_le ha.2 _
      have l3 : a.getD i.toNat 0 * pB i.toNat * NV (b.take (k.toNat + 1)) ≤ a.getD i.toNat 0 * pB i.toNat * NV b := Int.mul_le_mul_of_nonneg_left l1 (Int.mul_nonneg hai.1 (by omega))
      have l4 : NV (a.take (i.toNat + 1)) * NV b ≤ NV a * NV b := Int.mul_le_mul_of_nonneg_right l2 hB
      have hsum : NV [y0, y1, y2, y3, y4, y5, y6, y7] + a.getD i.toNat 0 * b.getD k.toNat 0 * pB (i + k).toNat = NV (a.take i.toNat) * NV b + a.getD i.toNat 0 * pB i.toNat * NV (b.take (k.toNat + 1)) := by
        rw [hvk, e2, e3]
        generalize a.getD i.toNat 0 = p1
        generalize b.getD k.toNat 0 = p2
        generalize pB i.toNat = p3
        generalize pB k.toNat = p4
        generalize NV (b.take k.toNat) = p5
        grind
      have hlt : NV [y0, y1, y2, y3, y4, y5, y6, y7] + a.getD i.toNat 0 * b.getD k.toNat 0 * pB (i + k).toNat < pB 8 := by
        rw [hsum]
        rw [e1, Int.add_mul] at l4
        omega
      refine ⟨by decide, ⟨i0, hi⟩, by decide, ⟨k0, hk⟩, _, ca i0 hi, _, cb k0 hk, ⟨by omega, by omega⟩, ?_⟩
      intro K41 h41
      have kf : ∀ bb : Bool, bb = false → K41 bb w' := fun bb hbb => by
        rw [hbb]
        refine h41 false w' ⟨fun e => (by cases e), fun _ => ⟨⟨by omega, by omega⟩, ?_⟩⟩
        refine spec.theodoliteref01_Num__plus (d := [y0, y1, y2, y3, y4, y5, y6, y7]) hdk (by omega) (by omega) hp.1 (by omega) (fun _ => hlt) fun d' hd' hv' => ⟨⟨by omega, by omega⟩, ⟨rfl, by omega, by omega, rfl, ?_, ?_⟩, by dsimp only; omega⟩
        · rw [← dig8 hd'.1]; exact hd'
        · rw [← dig8 hd'.1, hv', hsum, show (k + 1).toNat = k.toNat + 1 by omega]
      refine ⟨fun hpos => ⟨⟨by omega, by omega⟩, kf _ (decide_eq_false fun h8 => ?_)⟩, fun _ => kf _ rfl⟩
      have h1 := NV_nonneg hdk.2
      have h2 : pB (i + k).toNat = pB ((i + k).toNat - 8) * pB 8 := by rw [← pB_add]; congr 1; omega
      have h3 := pB_pos ((i + k).toNat - 8)
      have h4 := pB_pos 8
      have h5 : pB 8 ≤ pB ((i + k).toNat - 8) * pB 8 := by
        have := Int.mul_le_mul_of_nonneg_right h3 (by omega : 0 ≤ pB 8)
        omega
      have h6 : pB (i + k).toNat ≤ a.getD i.toNat 0 * b.getD k.toNat 0 * pB (i + k).toNat := by
        have := Int.mul_le_mul_of_nonneg_right (show 1 ≤ a.getD i.toNat 0 * b.getD k.toNat 0 by omega) (show 0 ≤ pB (i + k).toNat by have := pB_pos (i + k).toNat; omega)
        omega
      omega
    · have ht : b.take 8 = b := List.take_of_length_le (by rw [hb.1]; omega)
      rw [show k.toNat = 8 by omega, ht] at hvk
      refine ⟨⟨by omega, by omega⟩, ⟨rfl, by omega, by omega, rfl, hdk, ?_⟩, by dsimp only; omega⟩
      rw [hvk, show (i + 1).toNat = i.toNat + 1 by omega, e1, Int.add_mul]
  · rw [show i.toNat = 8 by omega, List.take_of_length_le (by rw [ha.1]; omega)] at hv
    exact h _ hd hv

theorem spec.theodoliteref01_Num__Wide {d : List Int} {u : H} {K : Int → Int → H → Prop} (hd : Dig d) (h : K (NV (d.drop 4)) (NV (d.take 4)) u) :
    C.theodoliteref01_Num__Wide (d.getD 0 0) (d.getD 1 0) (d.getD 2 0) (d.getD 3 0) (d.getD 4 0) (d.getD 5 0) (d.getD 6 0) (d.getD 7 0) false u K := by
  refine ClT.forget (ss := [.agg [.int .u64, .int .u64]]) ?_
  apply vc.theodoliteref01_Num__Wide
  have e8 : (#[Value.int .i64 (d.getD 0 0), .int .i64 (d.getD 1 0), .int .i64 (d.getD 2 0), .int .i64 (d.getD 3 0), .int .i64 (d.getD 4 0), .int .i64 (d.getD 5 0), .int .i64 (d.getD 6 0), .int .i64 (d.getD 7 0), .bool false] : Array Value) = numC d := by
    conv => rhs; rw [dig8 hd.1]
    rfl
  rw [e8]
  intro n hn
  refine ⟨fun i x y w => w = u.ins n (.cells (numC d) 156 (0, 0)) ∧ -1 ≤ i ∧ i ≤ 3 ∧ x = NV ((d.drop 4).drop (i + 1).toNat) ∧ y = NV ((d.take 4).drop (i + 1).toNat), fun i _ _ _ => (i + 1).toNat,
    ⟨rfl, by omega, by omega, ?_, ?_⟩, ?_⟩
  · rw [show (3 + 1 : Int).toNat = 4 from rfl, List.drop_eq_nil_of_le (by rw [List.length_drop, hd.1]; omega)]; rfl
  · rw [show (3 + 1 : Int).toNat = 4 from rfl, List.drop_eq_nil_of_le (by rw [List.length_take, hd.1]; omega)]; rfl
  rintro i x y w ⟨rfl, i0, i3, hx, hy⟩
  refine ⟨fun hi => ?_, fun hi => ⟨H.le_ins _ hn, ?_⟩⟩
  · have g1 := hd.get (i := i.toNat) (by omega)
    have g2 := hd.get (i := (4 + i).toNat) (by omega)
    have bx : 0 ≤ x ∧ x < 281474976710656 := by
      rw [hx]
      have hm : ∀ z ∈ (d.drop 4).drop (i + 1).toNat, 0 ≤ z ∧ z < 65536 := fun z hz => hd.2 z (List.mem_of_mem_drop (List.mem_of_mem_drop hz))
      refine ⟨NV_nonneg hm, ?_⟩
      have h1 := NV_lt hm
      rw [List.length_drop, List.length_drop, hd.1] at h1
      have h2 : pB (8 - 4 - (i + 1).toNat) * pB ((i + 1).toNat - 1) = pB 3 := by rw [← pB_add]; congr 1; omega
      have h3 := pB_pos ((i + 1).toNat - 1)
      have h4 := pB_pos (8 - 4 - (i + 1).toNat)
      have h5 : pB (8 - 4 - (i + 1).toNat) ≤ pB 3 := by
        have := Int.mul_le_mul_of_nonneg_left h3 (show 0 ≤ pB (8 - 4 - (i + 1).toNat) by omega)
        omega
      have h6 : pB 3 = 281474976710656 := by decide
      omega
    have by' : 0 ≤ y ∧ y < 281474976710656 := by
      rw [hy]
      have hm : ∀ z ∈ (d.take 4).drop (i + 1).toNat, 0 ≤ z ∧ z < 65536 := fun z hz => hd.2 z (List.mem_of_mem_take (List.mem_of_mem_drop hz))
      refine ⟨NV_nonneg hm, ?_⟩
      have h1 := NV_lt hm
      rw [List.length_drop, List.length_take, hd.1] at h1
      have h2 : pB (min 4 8 - (i + 1).toNat) * pB ((i + 1).toNat - 1) = pB 3 := by rw [← pB_add]; congr 1; omega
      have h3 := pB_pos ((i + 1).toNat - 1)
      have h4 := pB_pos (min 4 8 - (i + 1).toNat)
      have h5 : pB (min 4 8 - (i + 1).toNat) ≤ pB 3 := by
        have := Int.mul_le_mul_of_nonneg_left h3 (show 0 ≤ pB (min 4 8 - (i + 1).toNat) by omega)
        omega
      have h6 : pB 3 = 281474976710656 := by decide
      omega
    have dx : NV ((d.drop 4).drop i.toNat) = d.getD (4 + i).toNat 0 + 65536 * x := by
      have hl : i.toNat < (d.drop 4).length := by rw [List.length_drop, hd.1]; omega
      rw [List.drop_eq_getElem_cons hl, hx, show (i + 1).toNat = i.toNat + 1 by omega]
      simp only [NV, List.getElem_drop]
      rw [List.getD_eq_getElem?_getD, List.getElem?_eq_getElem (by rw [hd.1]; omega)]
      simp only [show (4 + i).toNat = 4 + i.toNat by omega]
      rfl
    have dy : NV ((d.take 4).drop i.toNat) = d.getD i.toNat 0 + 65536 * y := by
      have hl : i.toNat < (d.take 4).length := by rw [List.length_take, hd.1]; omega
      rw [List.drop_eq_getElem_cons hl, hy, show (i + 1).toNat = i.toNat + 1 by omega]
      simp only [NV, List.getElem_take]
      rw [List.getD_eq_getElem?_getD, List.getElem?_eq_getElem (by rw [hd.1]; omega)]
      rfl
    have w1 : IntKind.u64.wrap ((IntKind.u64.wrap (65536 * x)) + (IntKind.u64.wrap (d.getD (4 + i).toNat 0))) = 65536 * x + d.getD (4 + i).toNat 0 := by
      rw [IntWalk.u64_in (65536 * x) (by omega), IntWalk.u64_in (d.getD (4 + i).toNat 0) (by omega), IntWalk.u64_in _ (by omega)]
    have w2 : IntKind.u64.wrap ((IntKind.u64.wrap (65536 * y)) + (IntKind.u64.wrap (d.getD i.toNat 0))) = 65536 * y + d.getD i.toNat 0 := by
      rw [IntWalk.u64_in (65536 * y) (by omega), IntWalk.u64_in (d.getD i.toNat 0) (by omega), IntWalk.u64_in _ (by omega)]
    refine ⟨by decide, ⟨hi, by omega⟩, _, num_cell' hd.1 hi (by omega), ⟨by omega, by omega⟩, by decide, ⟨by omega, by omega⟩, _, num_cell' hd.1 (i := 4 + i) (by omega) (by omega), ⟨by omega, by omega⟩, ?_⟩
    rw [w1, w2]
    refine ⟨⟨rfl, by omega, by omega, ?_, ?_⟩, by dsimp only; omega⟩
    · rw [show (i - 1 + 1).toNat = i.toNat by omega, dx]; omega
    · rw [show (i - 1 + 1).toNat = i.toNat by omega, dy]; omega
  · rw [show (i + 1).toNat = 0 by omega, List.drop_zero] at hx hy
    rw [hx, hy]
    exact h

theorem spec.theodoliteref01_Mul {a b : Int} {u : H} {K : Int → Int → H → Prop} (ha : U64 a) (hb : U64 b) (h : K (hiW (a * b)) (loW (a * b)) u) : C.theodoliteref01_Mul a b u K := by
  apply vc.theodoliteref01_Mul
  have z : U64 0 := ⟨by omega, by omega⟩
  have hnv : ∀ x : Int, U64 x → NV [dg x 0, dg x 1, dg x 2, dg x 3, dg 0 0, dg 0 1, dg 0 2, dg 0 3] = x := fun x hx => by
    simp only [NV, U64, dg, Nat.reducePow] at *
    omega
  have hdg : ∀ x : Int, Dig [dg x 0, dg x 1, dg x 2, dg x 3, dg 0 0, dg 0 1, dg 0 2, dg 0 3] := fun x => ⟨rfl, fun y hy => by
    simp only [List.mem_cons, List.not_mem_nil, or_false] at hy
    rcases hy with rfl | rfl | rfl | rfl | rfl | rfl | rfl | rfl <;> exact dg_lt _ _⟩
  have h8 : pB 8 = 340282366920938463463374607431768211456 := by decide
  have h4 : pB 4 = 18446744073709551616 := by decide
  have hab : 0 ≤ a * b ∧ a * b < pB 8 := by
    refine ⟨Int.mul_nonneg ha.1 hb.1, ?_⟩
    have h1 : a ≤ 18446744073709551615 := by have := ha.2; omega
    have h2 : b ≤ 18446744073709551615 := by have := hb.2; omega
    have := Int.mul_le_mul h1 h2 hb.1 (by omega)
    rw [h8]
    omega
  refine spec.theodoliteref01_Of z ha (spec.theodoliteref01_Of z hb ?_)
  refine spec.theodoliteref01_Num__Times (a := [dg a 0, dg a 1, dg a 2, dg a 3, dg 0 0, dg 0 1, dg 0 2, dg 0 3]) (b := [dg b 0, dg b 1, dg b 2, dg b 3, dg 0 0, dg 0 1, dg 0 2, dg 0 3]) (hdg a) (hdg b) (by rw [hnv a ha, hnv b hb]; exact hab.2) fun d hd hv => ?_
  rw [hnv a ha, hnv b hb] at hv
  refine spec.theodoliteref01_Num__Wide hd ?_
  have e := NV_app (d.take 4) (d.drop 4)
  rw [List.take_append_drop, List.length_take, hd.1, show min 4 8 = 4 from rfl, hv, h4] at e
  have m1 : ∀ z ∈ d.take 4, 0 ≤ z ∧ z < 65536 := fun z hz => hd.2 z (List.mem_of_mem_take hz)
  have b1 := NV_nonneg m1
  have b2 := NV_lt m1
  rw [List.length_take, hd.1, show min 4 8 = 4 from rfl, h4] at b2
  have e1 : NV (d.drop 4) = hiW (a * b) := by unfold hiW; omega
  have e2 : NV (d.take 4) = loW (a * b) := by unfold loW; omega
  rw [e1, e2]
  exact h

end Go.Proofs.YtncgdoeobblnkaaGreat

/- VcLend -/
namespace Go.Proofs.YtncgdoeobblnkaaGreat

/-! ### blocks of cells of which all is known -/

section
variable {α : Type} {enc : α → List Value} {k : Nat}

theorem made_flat (hk : ∀ x, (enc x).length = k) (hk0 : 0 < k) (a : α) (m : Nat) : (madeCells (enc a).toArray (m * k)).toList = (List.replicate m a).flatMap enc := by
  apply List.ext_getElem?
  intro i
  by_cases hi : i < m * k
  · have e : i = i / k * k + i % k := by rw [Nat.mul_comm]; exact (Nat.div_add_mod i k).symm
    have hm : i % k < k := Nat.mod_lt _ hk0
    have hd : i / k < m := Nat.div_lt_of_lt_mul (by rw [Nat.mul_comm]; exact hi)
    have hr : ((List.replicate m a).flatMap enc)[i]? = (enc a)[i % k]? := by
      conv => lhs; rw [e]
      rw [flat_get hk _ _ _ hm, List.getElem?_replicate, if_pos hd]
      rfl
    rw [hr]
    have hm' : i % k < (enc a).length := by rw [hk]; exact hm
    simp [madeCells, hi, hk, hm]
  · rw [List.getElem?_eq_none (by simp [size_madeCells]; omega), List.getElem?_eq_none (by rw [flat_len hk]; simp; omega)]

/-- Elements in a block of their own. -/
def objOf (enc : α → List Value) (xs : List α) (T : TypeId) : Obj := .cells (xs.flatMap enc).toArray T (0, 0)

theorem flat_seg (hk : ∀ x, (enc x).length = k) {u : H} {g : Nat} {xs ys : List α} {T : TypeId} (hg : u g = some (objOf enc (xs ++ ys) T)) {c : Nat} (hc : xs.length ≤ c) (hm : c ≤ 9223372036854775807) :
    Seg u ⟨some ⟨g, 0, none⟩, xs.length, c⟩ k (xs.flatMap enc) := by
  refine ⟨flat_len hk xs, hc, hm, .inr ⟨_, rfl, fun i v e => ?_⟩⟩
  rw [Addr.add_lit, Nat.zero_add, H.cell?_of hg, List.getElem?_toArray, List.flatMap_append, List.getElem?_append_left ((List.getElem?_eq_some_iff.1 e).1)]
  exact e

end

theorem H.ins_self {u : H} {g : Nat} {o : Obj} (h : u g = some o) : u.ins g o = u := by
  funext x
  unfold H.ins
  split
  · rename_i hx; rw [hx, h]
  · rfl

/-! ### numbers -/

abbrev lentObj (q : List Int) : Obj := objOf encI (q ++ [-77]) 3

theorem lent_ints {u : H} {g : Nat} {q : List Int} (h : u g = some (lentObj q)) (hb : q.length ≤ 1000000) : Ints u ⟨some ⟨g, 0, none⟩, q.length, q.length + 1⟩ q := by
  have := flat_seg encI_len h (c := q.length + 1) (by omega) (by omega)
  rw [flatI] at this
  exact this

theorem spec.theodolitekeep_Ints {s t : Sl} {a b : List Int} {u : H} {K : Bool → H → Prop} (hs : Ints u s a) (ht : Ints u t b) (h : K (decide (a = b)) u) : C.theodolitekeep_Ints s t u K := by
  have key : ∀ z, decide (a = b) = z → K z u := fun z e => e ▸ h
  have hn := hs.len
  have hm := ht.len
  have hmx := hs.max
  apply vc.theodolitekeep_Ints
  refine ⟨fun hne => key _ ?_, fun he => ?_⟩
  · have : a ≠ b := fun e => hne (by rw [hn, hm, e])
    simp [this]
  · refine ⟨fun _ i v => v = u ∧ 0 ≤ i ∧ i ≤ (s.n : Int) ∧ a.take i.toNat = b.take i.toNat, fun _ i _ => s.n - i.toNat, ⟨rfl, by omega, by omega, by simp⟩, ?_⟩
    rintro _ i v ⟨rfl, h0, h1, hp⟩
    refine ⟨fun hi => ?_, fun hi => key _ ?_⟩
    · obtain ⟨p, hp1, c0⟩ := hs.at h0 hi
      obtain ⟨q, hq1, d0⟩ := ht.at h0 (show i < (t.n : Int) by omega)
      have ia : i.toNat < a.length := by omega
      have ib : i.toNat < b.length := by omega
      have ga : a.getD i.toNat 0 = a[i.toNat] := by simp [List.getD_eq_getElem?_getD, ia]
      have gb : b.getD i.toNat 0 = b[i.toNat] := by simp [List.getD_eq_getElem?_getD, ib]
      refine ⟨p, hp1, ⟨h0, hi⟩, q, hq1, ⟨h0, by omega⟩, _, c0, _, d0, fun hne => key _ ?_, fun hxy => ⟨⟨by omega, by omega⟩, ⟨rfl, by omega, by omega, ?_⟩, by dsimp only; omega⟩⟩
      · have : a ≠ b := fun e => hne (by rw [e])
        simp [this]
      · rw [ga, gb] at hxy
        have e1 : (i + 1).toNat = i.toNat + 1 := by omega
        rw [e1, List.take_add_one, List.take_add_one, hp, List.getElem?_eq_getElem ia, List.getElem?_eq_getElem ib, hxy]
    · have e1 : i.toNat = a.length := by omega
      rw [e1, List.take_length, ← hn, show s.n = b.length by omega, List.take_length] at hp
      simp [hp]

/-! ### rows -/

/-- What a row tells. -/
def Rw.pr (r : Rw) : Int × List Int := (r.id, r.v)

abbrev rowsObj (ls : List Rw) : Obj := objOf encR ls 43

/-- The vectors of rows that are lent. -/
structure LentR (u0 u : H) (g : Nat) (ls : List Rw) : Prop where
  inner : ∀ r ∈ ls, ∃ h, r.s = ⟨some ⟨h, 0, none⟩, r.v.length, r.v.length + 1⟩ ∧ u h = some (lentObj r.v) ∧ u0 h = none ∧ h ≠ g ∧ r.v.length ≤ 1000000
  apart : ls.Pairwise fun a b => a.s.blk ≠ b.s.blk

theorem LentR.else {u0 u u' : H} {g : Nat} {ls : List Rw} (h : LentR u0 u g ls) (he : ∀ b o, b ≠ g → u b = some o → u' b = some o) : LentR u0 u' g ls :=
  ⟨fun r hr => by obtain ⟨x, h1, h2, h3, h4, h5⟩ := h.inner r hr; exact ⟨x, h1, he _ _ h4 h2, h3, h4, h5⟩, h.apart⟩

theorem LentR.rws {u0 u : H} {g : Nat} {ls ms : List Rw} (h : LentR u0 u g ls) (hg : u g = some (rowsObj (ls ++ ms))) {c : Nat} (hc : ls.length ≤ c) (hm : c ≤ 9223372036854775807) : Rws u ⟨some ⟨g, 0, none⟩, ls.length, c⟩ ls :=
  ⟨flat_seg encR_len hg hc hm, fun r hr => by
    obtain ⟨x, h1, h2, _, _, h5⟩ := h.inner r hr
    rw [h1]
    exact lent_ints h2 h5⟩

end Go.Proofs.YtncgdoeobblnkaaGreat

/- VcIntsPure -/
namespace Go.Proofs.YtncgdoeobblnkaaGreat

/-- Rising, and rising strictly. -/
def Up (l : List Int) : Prop := l.Pairwise (· ≤ ·)
def Rise (l : List Int) : Prop := l.Pairwise (· < ·)

theorem Rise.up {l : List Int} (h : Rise l) : Up l := h.imp fun h => Int.le_of_lt h

theorem sortI_perm (l : List Int) : (sortI l).Perm l := List.mergeSort_perm l _

theorem sortI_up (l : List Int) : Up (sortI l) := by
  have := List.pairwise_mergeSort (le := fun x y : Int => decide (x ≤ y)) (fun a b c h1 h2 => by simp at *; omega) (fun a b => by simp; omega) l
  exact this.imp fun h => by simpa using h

theorem sortI_len (l : List Int) : (sortI l).length = l.length := (sortI_perm l).length_eq

theorem Up.eq {a b : List Int} (ha : Up a) (hb : Up b) (h : a.Perm b) : a = b := by
  induction a generalizing b with
  | nil => exact (List.Perm.nil_eq h)
  | cons x a ih =>
    cases b with
    | nil => exact absurd h.length_eq (by simp)
    | cons y b =>
      have hxa := List.pairwise_cons.1 ha
      have hyb := List.pairwise_cons.1 hb
      have hxy : x = y := by
        have h1 : x ∈ y :: b := h.mem_iff.1 (List.mem_cons_self ..)
        have h2 : y ∈ x :: a := h.mem_iff.2 (List.mem_cons_self ..)
        rcases List.mem_cons.1 h1 with e | h1
        · exact e
        · rcases List.mem_cons.1 h2 with e | h2
          · exact e.symm
          · have := hyb.1 x h1
            have := hxa.1 y h2
            omega
      subst hxy
      rw [ih hxa.2 hyb.2 (List.Perm.cons_inv h)]

theorem sortI_of {a b : List Int} (h : a.Perm b) (ha : Up a) : a = sortI b := ha.eq (sortI_up b) (h.trans (sortI_perm b).symm)
theorem sortI_eq {a b : List Int} (h : a.Perm b) : sortI a = sortI b := sortI_of ((sortI_perm a).trans h) (sortI_up a)
theorem sortI_self {a : List Int} (h : Up a) : sortI a = a := (sortI_of (.refl a) h).symm

theorem sortI_rise {l : List Int} (h : l.Nodup) : Rise (sortI l) := by
  have h1 := sortI_up l
  have h2 : (sortI l).Nodup := (sortI_perm l).nodup_iff.2 h
  exact (h1.and h2).imp fun ⟨a, b⟩ => by omega

/-- One more, in its place. -/
theorem sortI_with {L : List Int} {x : Int} {k : Nat} (_hk : k ≤ (sortI L).length) (h1 : ∀ y ∈ (sortI L).take k, y < x) (h2 : ∀ y, (sortI L)[k]? = some y → x ≤ y) : (sortI L).take k ++ x :: (sortI L).drop k = sortI (x :: L) := by
  have hs := sortI_up L
  refine sortI_of ?_ ?_
  · refine (List.perm_middle).trans (List.Perm.cons x ?_)
    rw [List.take_append_drop]
    exact sortI_perm L
  · have hs' := hs
    rw [← List.take_append_drop k (sortI L)] at hs'
    have ⟨ha, hb, hab⟩ := List.pairwise_append.1 hs'
    have hxd : ∀ y ∈ (sortI L).drop k, x ≤ y := by
      intro y hy
      cases hd : (sortI L).drop k with
      | nil => rw [hd] at hy; cases hy
      | cons z r =>
        have hz : (sortI L)[k]? = some z := by
          have : ((sortI L).drop k)[0]? = some z := by rw [hd]; rfl
          rw [List.getElem?_drop] at this
          exact this
        have := h2 z hz
        rw [hd] at hy hb
        rcases List.mem_cons.1 hy with rfl | hy
        · exact this
        · have := (List.pairwise_cons.1 hb).1 y hy
          omega
    refine List.pairwise_append.2 ⟨ha, List.pairwise_cons.2 ⟨hxd, hb⟩, fun a haa b hbb => ?_⟩
    rcases List.mem_cons.1 hbb with rfl | hbb
    · have := h1 a haa; omega
    · exact hab a haa b hbb

/-! ### rows by their ids -/

/-- Of two lists out of rows whose ids come once, those with the same ids are the same rows. -/
theorem rows_perm {l a b : List Rw} (hl : (l.map (·.id)).Nodup) (ha : ∀ r ∈ a, r ∈ l) (hb : ∀ r ∈ b, r ∈ l) (h : (a.map (·.id)).Perm (b.map (·.id))) : a.Perm b := by
  have inj : ∀ {l : List Rw}, (l.map (·.id)).Nodup → ∀ r ∈ l, ∀ r' ∈ l, r.id = r'.id → r = r' := by
    intro l
    induction l with
    | nil => intro _ r hr; cases hr
    | cons x l ih =>
      intro hn r hr r' hr' e
      have h2 := List.nodup_cons.1 hn
      rcases List.mem_cons.1 hr with h1 | h1
      · rcases List.mem_cons.1 hr' with h3 | h3
        · rw [h1, h3]
        · exact (h2.1 (List.mem_map.2 ⟨r', h3, by rw [← e, h1]⟩)).elim
      · rcases List.mem_cons.1 hr' with h3 | h3
        · exact (h2.1 (List.mem_map.2 ⟨r, h1, by rw [e, h3]⟩)).elim
        · exact ih h2.2 r h1 r' h3 e
  let f : Int → Rw := fun x => (l.find? fun r => r.id == x).getD ⟨0, ⟨none, 0, 0⟩, []⟩
  have hf : ∀ r ∈ l, f r.id = r := by
    intro r hr
    show (l.find? fun r' => r'.id == r.id).getD _ = r
    cases hfind : l.find? fun r' => r'.id == r.id with
    | none => exact absurd (List.find?_eq_none.1 hfind r hr) (by simp)
    | some r' =>
      have h1 := List.find?_some hfind
      have h2 := List.mem_of_find?_eq_some hfind
      exact inj hl r' h2 r hr (by simpa using h1)
  have hm : ∀ {c : List Rw}, (∀ r ∈ c, r ∈ l) → (c.map (·.id)).map f = c := by
    intro c hc
    rw [List.map_map]
    conv => rhs; rw [← List.map_id c]
    exact List.map_congr_left fun r hr => hf r (hc r hr)
  have := h.map f
  rw [hm ha, hm hb] at this
  exact this

/-! ### boxes -/

end Go.Proofs.YtncgdoeobblnkaaGreat

/- VcPure2 -/
namespace Go.Proofs.YtncgdoeobblnkaaGreat

/-- Ids that come once. -/
def Once (l : List Hit) : Prop := (l.map (·.1)).Nodup

theorem Once.perm {a b : List Hit} (h : Once a) (hp : a.Perm b) : Once b := (hp.map _).nodup h
theorem Once.topk {k : Nat} {l : List Hit} (h : Once l) : Once (topk k l) :=
  List.Nodup.sublist (List.Sublist.map _ (List.take_sublist _ _)) (h.perm (sortH_perm l).symm)

theorem Once.eq {l : List Hit} (h : Once l) {a b : Hit} (ha : a ∈ l) (hb : b ∈ l) (e : a.1 = b.1) : a = b := by
  induction l with
  | nil => cases ha
  | cons x l ih =>
    have h2 := List.nodup_cons.1 h
    rcases List.mem_cons.1 ha with hax | ha
    · rcases List.mem_cons.1 hb with hbx | hb
      · rw [hax, hbx]
      · exact absurd (List.mem_map.2 ⟨b, hb, by show b.1 = x.1; rw [← e, hax]⟩) h2.1
    · rcases List.mem_cons.1 hb with hbx | hb
      · exact absurd (List.mem_map.2 ⟨a, ha, by show a.1 = x.1; rw [e, hbx]⟩) h2.1
      · exact ih h2.2 ha hb

theorem topk_mem {k : Nat} {l : List Hit} {x : Hit} (h : x ∈ topk k l) : x ∈ l := (sortH_perm l).mem_iff.1 (List.mem_of_mem_take h)

/-- What a search for the first k answers. -/
def TopRes (u u' : H) (l : List Rw) (q : List Int) (k : Int) (s : Sl) (e : Int) : Prop :=
  u.le u' ∧ ((e = topErr l q k ∧ e ≠ 0 ∧ s = ⟨none, 0, 0⟩) ∨ (e = 0 ∧ topErr l q k = 0 ∧ Qok l q ∧ 1 ≤ k ∧ k ≤ 64 ∧ OwnF u u' 66 3 s ((topk k.toNat (l.map (hitOf q))).flatMap encH)))

theorem topErr_ok {l : List Rw} {q : List Int} {k : Int} : topErr l q k = 0 ↔ Qok l q ∧ 1 ≤ k ∧ k ≤ 64 := by
  unfold topErr
  constructor
  · intro h
    split at h
    · rename_i hne; exact absurd h hne
    · rename_i he
      split at h
      · cases h
      · exact ⟨asked_ok.1 (by simpa using he), by omega, by omega⟩
  · rintro ⟨h1, h2, h3⟩
    rw [if_neg (by simp [asked_ok.2 h1]), if_neg (by omega)]

theorem spec.TopK {s t : Sl} {l : List Rw} {q : List Int} {k : Int} {u : H} {K : Sl → Int → H → Prop} (hs : Rws u s l) (ht : Ints u t q) (h : ∀ s' e u', TopRes u u' l q k s' e → K s' e u') : C.flat_TopK s t k u K :=
  spec.flat_TopK hs ht (fun hne => h _ _ u ⟨H.le.refl u, .inl ⟨rfl, hne, rfl⟩⟩) fun hq k1 k2 s' u' ho => h s' 0 u' ⟨ho.le, .inr ⟨rfl, topErr_ok.2 ⟨hq, k1, k2⟩, hq, k1, k2, ho⟩⟩

/-- The hits that it answers, an error or not. -/
theorem TopRes.hts {u u' : H} {l : List Rw} {q : List Int} {k : Int} {s : Sl} {e : Int} (h : TopRes u u' l q k s e) : ∃ L, Hts u' s L ∧ L.length ≤ 64 ∧ (e = 0 → L = topk k.toNat (l.map (hitOf q))) ∧ (e ≠ 0 → L = []) := by
  rcases h.2 with ⟨_, h1, rfl⟩ | ⟨h0, _, _, _, k2, ho⟩
  · exact ⟨[], (OwnF.nil (H.le.refl u') 0 3).own.seg, by simp, fun h => absurd h h1, fun _ => rfl⟩
  · exact ⟨_, ho.hts, by rw [topk_len]; omega, fun _ => rfl, fun h => absurd h0 h⟩

end Go.Proofs.YtncgdoeobblnkaaGreat

/- VcLawE -/
namespace Go.Proofs.YtncgdoeobblnkaaGreat

theorem spec.theodolitekeep_Vectors' {s : Sl} {l : List Rw} {m : Int} {u : H} {K : Int → H → Prop} (hs : Rws u s l) (hb : ∀ r ∈ l, r.v.length ≤ 17592186044416) (hl : s.n ≤ 17592186044416) (hm : m ≤ 1000000) (h : ∀ x, (x ≤ m → ∀ r ∈ l, (r.v.length : Int) ≤ m) → K x u) : C.theodolitekeep_Vectors s m u K := by
  have hn := hs.len
  apply vc.theodolitekeep_Vectors
  refine ⟨fun x i v => v = u ∧ 0 ≤ i ∧ i ≤ (s.n : Int) ∧ 0 ≤ x ∧ ∀ r ∈ l.take i.toNat, (r.v.length : Int) ≤ x, fun _ i _ => s.n - i.toNat, ⟨rfl, by omega, by omega, by omega, fun r hr => by simp at hr⟩, ?_⟩
  rintro x i v ⟨rfl, i0, i1, x0, hx0⟩
  intro K5 hK5
  refine ⟨fun hi => ⟨fun hx => hK5 _ ?_, fun hx => h x fun h => absurd h hx⟩, fun hi => h x fun hxm r hr => ?_⟩
  · obtain ⟨p, hp, r, hr, c0, c1, hv⟩ := hs.at i0 hi
    have hrm := List.mem_of_getElem? hr
    have := hb r hrm
    have hvn := hv.len
    refine ⟨p, hp, ⟨i0, hi⟩, _, c1, ⟨by omega, by omega⟩, ⟨by omega, by omega⟩, ⟨rfl, by omega, by omega, by omega, fun r' hr' => ?_⟩, by dsimp only; omega⟩
    rw [show (i + 1).toNat = i.toNat + 1 by omega, List.take_add_one, hr] at hr'
    rcases List.mem_append.1 hr' with h' | h'
    · have := hx0 r' h'
      omega
    · obtain rfl : r' = r := by simpa using h'
      omega
  · have := hx0 r (by rw [List.take_of_length_le (by omega)]; exact hr)
    omega

/-! ### what hangs on ids and vectors alone -/

/-! ### the document's first k -/

theorem spec.theodoliteref05_First {s : Sl} {L : List Hit} {k : Int} {u : H} {K : Sl → H → Prop} (hs : Hts u s L) (k0 : 0 ≤ k) (h : ∀ s', Hts u s' (L.take k.toNat) → K s' u) : C.theodoliteref05_First s k u K := by
  have hn := hs.len
  have hcap : s.n ≤ s.c := Seg.cap hs
  apply vc.theodoliteref05_First
  have ek : k = ((k.toNat : Nat) : Int) := by omega
  refine ⟨fun hk => ?_, fun hk => h _ ?_⟩
  · rw [ek]
    refine sem_slice (l := 0) (h := k.toNat) (m := s.c) tHits (.inl ⟨rfl, rfl⟩) (.inr rfl) (.inl ⟨rfl, rfl⟩) (Nat.zero_le _) (by omega) (Nat.le_refl _) hcap (h _ ?_)
    have := hs.part (l := 0) (h := k.toNat) (m := s.c) (Nat.zero_le _) (by omega) (by omega) (Nat.le_refl _)
    rw [List.drop_zero, Nat.sub_zero] at this
    exact this
  · rw [List.take_of_length_le (by omega)]
    exact hs

theorem TopRes.err {u u' : H} {l : List Rw} {q : List Int} {k : Int} {s : Sl} {e : Int} (h : TopRes u u' l q k s e) : e = topErr l q k := by
  rcases h.2 with ⟨h1, _⟩ | ⟨h1, h2, _⟩ <;> omega

/-- Where what is new stays, the hits stay. -/
theorem TopRes.else {u u' u'' : H} {l : List Rw} {q : List Int} {k : Int} {s : Sl} {e : Int} (h : TopRes u u' l q k s e) (he : ∀ b o, u b = none → u' b = some o → u'' b = some o) :
    ∃ L, Hts u'' s L ∧ (e = 0 → L = topk k.toNat (l.map (hitOf q))) ∧ (e ≠ 0 → L = []) := by
  rcases h.2 with ⟨_, h1, rfl⟩ | ⟨h0, _, _, _, _, ho⟩
  · exact ⟨[], (OwnF.nil (H.le.refl u'') 0 3).own.seg, fun h => absurd h h1, fun _ => rfl⟩
  · exact ⟨_, (ho.own.le (u' := u'') fun b o hb hu => he b o (ho.fresh b hb) hu).seg, fun _ => rfl, fun h => absurd h0 h⟩

end Go.Proofs.YtncgdoeobblnkaaGreat
