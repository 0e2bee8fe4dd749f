/- slices.SortFunc over hits, slices.Sort over ints: the shelf's contracts in our words. -/
import Derived.Test.YtgfafpiinencpaaGreatVcHeap
import Derived.Shelf.SlSortCmp.WholeK
import Derived.Shelf.SlSortCmp.NoneTotal
import Derived.Shelf.SortG.Plain
import Derived.Shelf.SortG.SortNone
import Derived.Test.YtgfafpiinencpaaGreatVcShelf
namespace Go.Proofs.YtgfafpiinencpaaGreat
open Go.Shelf Go.RowKit Go.Sort

theorem Step.grow_eq {W w' : World} (h : Step (fun b => W.heap[b]?) [] W (fun b => W.heap[b]?) [] w') : ∃ q os', w' = grow (W.drewN q) os' := by
  refine ⟨w'.drawn - W.drawn, w'.heap.extract W.heap.size w'.heap.size, ?_⟩
  have hd := h.drawn
  have hs := h.size
  have hh : w'.heap = W.heap ++ w'.heap.extract W.heap.size w'.heap.size := by
    apply Array.ext
    · simp; omega
    · intro i h1 h2
      rcases Nat.lt_or_ge i W.heap.size with hi | hi
      · rw [Array.getElem_append_left hi]
        have := h.sub i W.heap[i] (by simp [hi])
        rw [Array.getElem?_eq_getElem h1] at this
        exact Option.some.inj this
      · rw [Array.getElem_append_right hi]
        simp only [Array.getElem_extract]
        congr 1
        omega
  have e1 := h.os
  have e2 := h.tape
  have e3 := h.output
  cases w'; cases W
  simp only [grow, World.drewN] at *
  simp only [World.mk.injEq]
  refine ⟨hh, e2, by omega, e1, e3⟩

/-- A call that leaves all as it was, in the shelf's words. -/
theorem grown_of_pure {P : Program} {f : FuncId} {args : Array Value} {z : Int} (h : ∀ u : H, ClT P f args [.one (.int .i64)] u fun z' u' => z' = z ∧ u' = u) (W : World) :
    Calls P f args W fun e w' => e = .returned (.int .i64 z) ∧ ∃ q os', w' = grow (W.drewN q) os' := by
  refine (h (fun b => W.heap[b]?) W (fun b o e => e)).mono ?_
  rintro e w' ⟨v, u', rfl, ⟨vs, hk, rfl, hc⟩, hs⟩
  cases hk with
  | cons x hr =>
    cases hr
    have hc2 := (CT.un_enc (.int .i64) x _).1 hc
    obtain ⟨hx, hu⟩ : x = z ∧ u' = _ := hc2
    subst hx; subst hu
    exact ⟨rfl, hs.grow_eq⟩

def cmpH (a b : Hit) : Int := if hlt a b then -1 else if hlt b a then 1 else 0

theorem swo_hlt (cf : Hit → Hit → Int) (h : ∀ a b, cf a b < 0 ↔ hlt a b = true) : SWO (ltOf cf) where
  irrefl x := by unfold ltOf; simp [h, hlt_irrefl]
  trans x y z h1 h2 := by unfold ltOf at *; simp only [decide_eq_true_eq, h] at *; exact hlt_lt_trans h1 h2
  ntrans x y z h1 h2 := by
    unfold ltOf at *
    simp only [decide_eq_false_iff_not, h, Bool.not_eq_true] at *
    exact hlt_le_trans h2 h1

instance : Inhabited Hit := ⟨(0, 0)⟩

theorem flatK_hits (d : Array Hit) : (flatK encH 3 d).toList = d.toList.flatMap encH := by
  apply List.ext_getElem?
  intro i
  rcases Nat.lt_or_ge i (d.size * 3) with hi | hi
  · have e : i = i / 3 * 3 + i % 3 := by omega
    have hd : i / 3 < d.size := by omega
    have hr : i % 3 < 3 := Nat.mod_lt _ (by decide)
    have hf := flat_get encH_len d.toList (i / 3) (i % 3) hr
    rw [← e] at hf
    rw [hf]
    have : (flatK encH 3 d).toList[i]? = some ((flatK encH 3 d)[i]!) := by
      rw [Array.getElem?_toList, getElem!_pos _ i (by simpa using hi), Array.getElem?_eq_getElem (by simpa using hi)]
    rw [this, get_flatK _ _ _ _ hi]
    simp [hd]
    have h2 : i % 3 < (encH d[i / 3]).length := by rw [encH_len]; exact hr
    rw [List.getElem?_eq_getElem h2]
    rfl
  · rw [List.getElem?_eq_none (by simpa using hi), List.getElem?_eq_none (by rw [flat_len encH_len]; simpa using hi)]

theorem heap_mapBlock {w : World} {g : Nat} {cur : Array Value} {T : TypeId} {fz : Nat × Nat} (f : Array Value → Array Value) (h : w.heap[g]? = some (.cells cur T fz)) :
    (mapBlock w g f).heap[g]? = some (.cells (f cur) T fz) ∧ ∀ b, b ≠ g → (mapBlock w g f).heap[b]? = w.heap[b]? := by
  unfold mapBlock
  constructor
  · simp only [Array.getElem?_modify, if_true, h, Option.map_some, onCells]
  · intro b hb
    simp only [Array.getElem?_modify]
    rw [if_neg (Ne.symm hb)]

/-- What the shelf's sorts leave behind. -/
theorem step_sorted {u : H} {w : World} (hw : Sub u w) {g : Nat} {cur : Array Value} {T : TypeId} (hg : u g = some (.cells cur T (0, 0))) (n : Nat) (f : Array Value → Array Value) (os : Array Obj) :
    Step u [] w (u.ins g (.cells (f cur) T (0, 0))) [] (grow (mapBlock (Sort.ahead w n) g f) os) := by
  have hgw : (Sort.ahead w n).heap[g]? = some (.cells cur T (0, 0)) := hw _ _ hg
  obtain ⟨h1, h2⟩ := heap_mapBlock f hgw
  have hsz : (mapBlock (Sort.ahead w n) g f).heap.size = w.heap.size := by simp [mapBlock, Sort.ahead]
  have hgr : ∀ b, b < w.heap.size → (grow (mapBlock (Sort.ahead w n) g f) os).heap[b]? = (mapBlock (Sort.ahead w n) g f).heap[b]? := by
    intro b hb
    show ((mapBlock (Sort.ahead w n) g f).heap ++ os)[b]? = _
    rw [Array.getElem?_append_left (by rw [hsz]; exact hb)]
  refine ⟨fun b o h => ?_, rfl, rfl, rfl, Nat.le_add_right _ _, ?_, fun b hb hbn _ => ?_, fun b hb hbn => ?_, [], by simp, by simp⟩
  · unfold H.ins at h
    split at h
    · rename_i hbg; subst hbg; cases h
      rw [hgr _ (hw.lt hg)]; exact h1
    · rename_i hbg
      rw [hgr _ (hw.lt h), h2 b hbg]; exact hw b o h
  · show w.heap.size ≤ ((mapBlock (Sort.ahead w n) g f).heap ++ os).size
    rw [Array.size_append, hsz]; omega
  · have : b ≠ g := fun h => by rw [h, hg] at hbn; cases hbn
    rw [hgr b hb, h2 b this]; rfl
  · have : b ≠ g := fun h => by rw [h, hg] at hbn; cases hbn
    rw [H.ins_other _ _ this]; exact hbn

theorem putCells_get {F cur : Array Value} (h : F.size ≤ cur.size) : (putCells id 0 F cur).toList.take F.size = F.toList := by
  apply List.ext_getElem?
  intro i
  rw [List.getElem?_take]
  split
  · rename_i hi
    have hc : i < cur.size := by omega
    simp only [putCells, Array.getElem?_toList, Array.getElem?_mapIdx]
    rw [Array.getElem?_eq_getElem hc, Array.getElem?_eq_getElem hi]
    simp only [Option.map_some, Nat.zero_le, true_and, Nat.zero_add, hi, if_true, Nat.sub_zero, id]
    rw [getElem!_pos F i hi]
  · rename_i hi
    rw [List.getElem?_eq_none (by simpa using hi)]

theorem putCells_size {F cur : Array Value} : (putCells id 0 F cur).size = cur.size := by simp [putCells]

theorem OwnF.resort {u0 u : H} {e k : Nat} {s : Sl} {xs : List Value} (h : OwnF u0 u e k s xs) {g : Nat} {cur : Array Value} (ha : s.a = some ⟨g, 0, none⟩) (hg : u g = some (.cells cur e (0, 0))) {F : Array Value} (hF : F.size = s.n * k) :
    OwnF u0 (u.ins g (.cells (putCells id 0 F cur) e (0, 0))) e k s F.toList ∧ Else u (u.ins g (.cells (putCells id 0 F cur) e (0, 0))) s := by
  rcases h.own.is with h0 | ⟨g', cur', ha', hg', hn, hc, hs, ht⟩
  · rw [h0] at ha; cases ha
  · rw [ha] at ha'; cases ha'
    rw [hg] at hg'; cases hg'
    have hle : s.n * k ≤ s.c * k := Nat.mul_le_mul_right _ hn
    have hblk : s.blk = some g := by simp [Sl.blk, ha]
    refine ⟨⟨⟨by simpa using hF, .inr ⟨g, _, ha, H.ins_same _ _ _, hn, hc, by rw [putCells_size]; exact hs, ?_⟩⟩, fun b o hb => ?_, h.fresh⟩, fun b o hb hne => ?_⟩
    · rw [← hF]; exact putCells_get (by rw [hF, hs]; exact hle)
    · have : b ≠ g := fun e => by rw [e, h.fresh g hblk] at hb; cases hb
      rw [H.ins_other _ _ this]; exact h.le b o hb
    · have : b ≠ g := fun e => hne (by rw [hblk, e])
      rw [H.ins_other _ _ this]; exact hb

theorem srt_of {cf : Hit → Hit → Int} (h : ∀ a b, cf a b < 0 ↔ hlt a b = true) {d : Array Hit} (hs : SortedIn (ltOf cf) 0 d.size d) : Srt d.toList := by
  refine List.pairwise_iff_getElem.2 fun i j hi hj hij => ?_
  have := hs i j (Nat.zero_le _) hij (by simpa using hj)
  simp only [Array.length_toList] at hi hj
  rw [getElem!_pos d j hj, getElem!_pos d i hi] at this
  unfold ltOf at this
  simp only [decide_eq_false_iff_not, h, Bool.not_eq_true] at this
  simpa using this

/-- slices.SortFunc, of hits, by whatever comparison that is pure and in their order. -/
theorem spec.slices_SortFunc__api_Hit_ {g : FuncId} {cf : Hit → Hit → Int} (h : ∀ a b, cf a b < 0 ↔ hlt a b = true) (eg : ∀ args w, (callFunc g args).run Tryz.prog w = .ok (.enter g args) w)
    (hcf : ∀ a b (u : H), ClT Tryz.prog g #[.agg (encH a).toArray, .agg (encH b).toArray] [.one (.int .i64)] u fun z' u' => z' = cf a b ∧ u' = u)
    {u0 u : H} {s : Sl} {l : List Hit} (ho : OwnF u0 u 62 3 s (l.flatMap encH)) (hsm : l.length < 4611686018427387904) {K : H → Prop}
    (hK : ∀ u', OwnF u0 u' 62 3 s ((sortH l).flatMap encH) → Else u u' s → K u') : C.slices_SortFunc__api_Hit_ s (.func (.func g) #[] #[]) u K := by
  intro w hw
  have hsn := ho.hts.len
  rcases ho.own.is with h0 | ⟨b, cur, ha, hg, hle, hc, hs, ht⟩
  · subst h0
    have hl : l = [] := by
      have : l.length = 0 := hsn.symm
      exact List.eq_nil_of_length_eq_zero this
    subst hl
    refine (AnyF.slices_SortFunc_none Tryz.sortHits none 0 _ w).mono ?_
    rintro e w' ⟨rfl, rfl⟩
    exact ⟨_, u, rfl, ⟨[], .nil, rfl, hK u ho (Else.refl _ _)⟩, Step.refl hw⟩
  have hH : HoldsK encH 3 w b 0 l.toArray := by
    intro j hj
    simp only [size_flatK, List.size_toArray] at hj
    have hseg := ho.own.seg
    have hl : (l.flatMap encH)[j]? = some ((flatK encH 3 l.toArray)[j]!) := by
      have := flatK_hits l.toArray
      simp only [] at this
      rw [← this, Array.getElem?_toList, getElem!_pos _ j (by simpa using hj), Array.getElem?_eq_getElem (by simpa using hj)]
    constructor
    · rcases hseg.at' with h1 | ⟨p, hp, hcell⟩
      · rw [h1] at hl; simp at hl
      · rw [ha] at hp; cases hp
        have := hw.cell (hcell j _ hl)
        rw [Addr.add_lit, Nat.zero_add] at this
        simpa using this
    · simp [World.frozen?, hw _ _ hg]
  have hcall := AnyQ.slices_SortFunc Tryz.sortHits 3 (fun w => by kernel_rfl) (fun w => by kernel_rfl) encH encH_len (fun x => encH_one x) cf (swo_hlt cf h) g #[] b 0 s.c l.toArray w eg
    (fun m os dk _ x y => by
      have := grown_of_pure (hcf x y) (sortWorldK encH 3 w b 0 m dk os)
      simpa using this) hH (hw.lt hg) (by simpa using hsm)
  simp only [List.size_toArray] at hcall
  change Calls Tryz.prog 49 _ _ _ at hcall
  rw [ha, hsn]
  refine hcall.mono ?_
  rintro e w' ⟨rfl, d', n, os, ⟨hp1, _, hp3⟩, hsrt, rfl⟩
  simp only [List.size_toArray] at hp1
  have hperm : d'.toList.Perm l := by
    have e1 : d'.extract 0 l.length = d' := by rw [← hp1]; simp
    have e2 : l.toArray.extract 0 l.length = l.toArray := by simp
    rw [e1, e2] at hp3
    simpa using hp3
  have hsrt' : Srt d'.toList := srt_of h (by rw [hp1]; exact hsrt)
  have hl : d'.toList = sortH l := sortH_of hperm hsrt'
  obtain ⟨ho', he⟩ := ho.resort ha hg (F := flatK encH 3 d') (by rw [size_flatK, hp1, hsn])
  rw [flatK_hits, hl] at ho'
  exact ⟨_, _, rfl, ⟨[], .nil, rfl, hK _ ho' he⟩, step_sorted hw hg n _ os⟩

/-! ### ints -/

def encI (x : Int) : List Value := [.int .i64 x]
theorem encI_len (x : Int) : (encI x).length = 1 := rfl
theorem encI_one (x : Int) : ∀ v ∈ encI x, v.oneCell' = true := by simp [encI, Value.oneCell']
theorem flatI (l : List Int) : l.flatMap encI = l.map fun x => .int .i64 x := by
  induction l with
  | nil => rfl
  | cons x l ih => simp [encI] at ih ⊢; exact ih

theorem OwnF.ints {u0 u : H} {e : Nat} {s : Sl} {l : List Int} (h : OwnF u0 u e 1 s (l.flatMap encI)) : Ints u s l := by
  have := h.own.seg
  rw [flatI] at this
  exact this

/-- Rising. -/
def sortI (l : List Int) : List Int := l.mergeSort fun x y => decide (x ≤ y)

theorem spec.slices_Sort___int_int_ {u0 u : H} {s : Sl} {l : List Int} (ho : OwnF u0 u 3 1 s (l.flatMap encI)) (hsm : l.length < 4611686018427387904) {K : H → Prop}
    (hK : ∀ u', OwnF u0 u' 3 1 s ((sortI l).flatMap encI) → Else u u' s → K u') : C.slices_Sort___int_int_ s u K := by
  intro w hw
  have hsn := ho.ints.len
  rcases ho.own.is with h0 | ⟨b, cur, ha, hg, hle, hc, hs, ht⟩
  · subst h0
    have hl : l = [] := by
      have : l.length = 0 := hsn.symm
      exact List.eq_nil_of_length_eq_zero this
    subst hl
    refine (AnyG.slices_Sort_int_none Tryz.sortInts none 0 w).mono ?_
    rintro e w' ⟨rfl, rfl⟩
    exact ⟨_, u, rfl, ⟨[], .nil, rfl, hK u (by simpa [sortI] using ho) (Else.refl _ _)⟩, Step.refl hw⟩
  have hH : Holds (Value.int .i64) w b 0 l.toArray := by
    intro j hj
    have hj' : j < l.length := by simpa using hj
    have hl : (l.flatMap encI)[j]? = some (.int .i64 l[j]) := by rw [flatI]; simp [hj']
    constructor
    · rcases ho.own.seg.at' with h1 | ⟨p, hp, hcell⟩
      · rw [h1] at hl; simp at hl
      · rw [ha] at hp; cases hp
        have := hw.cell (hcell j _ hl)
        rw [Addr.add_lit, Nat.zero_add] at this
        rw [getElem!_pos _ j (by simpa using hj')]
        simpa using this
    · simp [World.frozen?, hw _ _ hg]
  have hcall := AnyG.slices_Sort_int Tryz.sortInts b 0 s.c l w hH (hw.lt hg) hsm
  change Calls Tryz.prog 36 _ _ _ at hcall
  rw [ha, hsn]
  refine hcall.mono ?_
  rintro e w' ⟨rfl, n, os, rfl⟩
  have hlen : (sortI l).length = l.length := by simp [sortI]
  have hput : putCells (Value.int .i64) 0 (sortI l).toArray cur = putCells id 0 ((sortI l).map fun x => Value.int .i64 x).toArray cur := by
    unfold putCells
    apply Array.ext
    · simp
    · intro i h1 h2
      simp only [Array.getElem_mapIdx, List.size_toArray, List.length_map, Nat.zero_le, true_and, Nat.zero_add, Nat.sub_zero, id]
      split
      · rename_i hi
        rw [getElem!_pos _ i (by simpa using hi), getElem!_pos _ i (by simpa using hi)]
        simp
      · rfl
  obtain ⟨ho', he⟩ := ho.resort ha hg (F := ((sortI l).map fun x => Value.int .i64 x).toArray) (by simp [hlen, hsn])
  rw [← hput] at ho' he
  simp only [] at ho'
  rw [← flatI] at ho'
  exact ⟨_, _, rfl, ⟨[], .nil, rfl, hK _ ho' he⟩, step_sorted hw hg n _ os⟩

end Go.Proofs.YtgfafpiinencpaaGreat
