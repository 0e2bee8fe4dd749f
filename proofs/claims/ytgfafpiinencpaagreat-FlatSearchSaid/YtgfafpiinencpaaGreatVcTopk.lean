/- topk: a heap of the first k hits. -/
import Derived.Test.YtgfafpiinencpaaGreatVcSort
namespace Go.Proofs.YtgfafpiinencpaaGreat

theorem compare_eq (a b : Hit) (u : H) : ClT Tryz.prog 50 #[.agg (encH a).toArray, .agg (encH b).toArray] [.one (.int .i64)] u fun z' u' => z' = cmpH a b ∧ u' = u := by
  refine spec.topk_compare (a := a) (b := b) (K := fun z' u' => z' = cmpH a b ∧ u' = u) fun z h1 h2 h3 h4 => ⟨?_, rfl⟩
  unfold cmpH
  by_cases ha : hlt a b = true
  · rw [if_pos ha]; have := h1.2 ha; omega
  · rw [if_neg ha]
    by_cases hb : hlt b a = true
    · rw [if_pos hb]; have := h2.2 hb; omega
    · rw [if_neg hb]
      have n1 : ¬ z < 0 := fun h => ha (h1.1 h)
      have n2 : ¬ 0 < z := fun h => hb (h2.1 h)
      omega

theorem cmpH_lt (a b : Hit) : cmpH a b < 0 ↔ hlt a b = true := by
  unfold cmpH
  by_cases ha : hlt a b = true
  · simp [ha]
  · rw [if_neg ha]
    split <;> simp [ha]

/-! ### the heap's methods -/

def methB (P : Program) (t : TypeId) (name : String) (f : FuncId) (ptr : Bool) : Bool :=
  match P.info? t with
  | some i => match i.methods.find? (·.name == name) with
    | some m => match m.path.toList, m.func with
      | [], some (g, b) => Nat.beq g f && (b == ptr)
      | _, _ => false
    | none => false
  | none => false

theorem methB_spec {P : Program} {t : TypeId} {name : String} {f : FuncId} {ptr : Bool} (h : methB P t name f ptr = true) :
    ∃ i m, P.info? t = some i ∧ i.methods.find? (·.name == name) = some m ∧ m.path = #[] ∧ m.func = some (f, ptr) := by
  unfold methB at h
  split at h
  · rename_i i hi
    split at h
    · rename_i m hm
      split at h
      · rename_i g b hp hf
        simp only [Bool.and_eq_true, beq_iff_eq] at h
        refine ⟨i, m, hi, hm, ?_, ?_⟩
        · apply Array.ext'; rw [hp]
        · rw [hf, Nat.eq_of_beq_eq_true h.1, h.2]
      · cases h
    · cases h
  · cases h

theorem mLen : methB Tryz.prog 86 "Len" 140 false = true := by kernel_rfl
theorem mLess : methB Tryz.prog 86 "Less" 141 false = true := by kernel_rfl
theorem mSwap : methB Tryz.prog 86 "Swap" 142 false = true := by kernel_rfl
theorem mPush : methB Tryz.prog 86 "Push" 143 true = true := by kernel_rfl
theorem shHits : shOf Tryz.prog 80 = some (.one .slice) := by kernel_rfl
theorem undHits : Tryz.prog.underlying 86 = some (.pointer 80) := by kernel_rfl
theorem tHeapHits : elemT Tryz.prog 80 = some (62, 3, 24, [.int .i64 0, .int .u64 0, .int .u64 0]) := by kernel_rfl
theorem build_hit' (x y z : Int) : buildOf Tryz.prog 80 1 #[(0, .agg #[.int .i64 x, .int .u64 y, .int .u64 z])] = some (62, [.int .i64 x, .int .u64 y, .int .u64 z]) := by kernel_rfl

theorem fuelOk : ∃ k, Tryz.prog.types.size + Made.depth = k + 1 := by
  have h : 0 < Made.depth := by decide
  generalize Tryz.prog.types.size = a
  exact ⟨a + Made.depth - 1, by omega⟩

/-- A heap of hits in block n, its bound k; u0: what was known ahead of it. -/
structure TopSt (u0 : H) (n : Nat) (k : Int) (u : H) (l : List Hit) : Prop where
  ex : ∃ s : Sl, u n = some (.cells #[.int .i64 k, .slice s.a s.n s.c] 82 (0, 0)) ∧ OwnF u0 u 62 3 s (l.flatMap encH) ∧ s.blk ≠ some n
  out : u0 n = none
  small : l.length ≤ 1000000

/-- The heap as an interface's value. -/
def heapV (n : Nat) : Value := .iface 86 (.pointer (some ((Addr.mk n 0 none).add 1)))

theorem add1 (n : Nat) : (Addr.mk n 0 none).add 1 = ⟨n, 1, none⟩ := by rw [Addr.add_lit]

theorem heap_val {u : H} {n : Nat} {k : Int} {s : Sl} {name : String} {f : FuncId} (hm : methB Tryz.prog 86 name f false = true) (hn : u n = some (.cells #[.int .i64 k, .slice s.a s.n s.c] 82 (0, 0))) (w : World) (hw : Sub u w) :
    (method (Tryz.prog.types.size + Made.depth) 86 (.pointer (some ((Addr.mk n 0 none).add 1))) name).run Tryz.prog w = .ok (f, .slice s.a s.n s.c) w := by
  obtain ⟨i, m, h1, h2, h3, h4⟩ := methB_spec hm
  obtain ⟨k', hk'⟩ := fuelOk
  rw [hk']
  refine run_method_val h1 h2 h3 h4 undHits ?_
  have hc : u.cell? ((Addr.mk n 0 none).add 1) = some (.slice s.a s.n s.c) := by rw [add1]; exact H.cell?_of hn 1
  have hcw := hw.cell hc
  exact loadVar_run shHits ((Addr.mk n 0 none).add 1) (vs := [.slice s.a s.n s.c]) rfl (run_loadCellsFrom_list _ _ _ _ _ rfl (fun j v hj => by
    cases j with
    | zero => simp at hj; subst hj; exact hcw
    | succ j => simp at hj)) (fun c hc => ⟨_, rfl, hcw⟩)

theorem encH_get (h : Hit) : (encH h)[0]? = some (.int .i64 h.1) ∧ (encH h)[1]? = some (.int .u64 (hiW h.2)) ∧ (encH h)[2]? = some (.int .u64 (loW h.2)) := ⟨rfl, rfl, rfl⟩

theorem getD_of {l : List Hit} {i : Nat} {x : Hit} (h : l[i]? = some x) : l.getD i default = x := by rw [List.getD_eq_getElem?_getD, h]; rfl

theorem spec.topk_hits__Less {s : Sl} {l : List Hit} {i j : Int} {u : H} {K : Bool → H → Prop} (hs : Hts u s l) (i0 : 0 ≤ i) (i1 : i < l.length) (j0 : 0 ≤ j) (j1 : j < l.length)
    (h : K (hlt (l.getD j.toNat default) (l.getD i.toNat default)) u) : C.topk_hits__Less s i j u K := by
  have hn := hs.len
  apply vc.topk_hits__Less
  obtain ⟨p, hp, x, hx, c0, c1, c2⟩ := hs.at j0 (show j < (s.n : Int) by omega)
  obtain ⟨q, hq, y, hy, d0, d1, d2⟩ := hs.at i0 (show i < (s.n : Int) by omega)
  rw [getD_of hx, getD_of hy] at h
  exact ⟨p, hp, ⟨j0, by omega⟩, q, hq, ⟨i0, by omega⟩, _, c0, _, c1, _, c2, _, d0, _, d1, _, d2, spec.topk_Less h⟩

theorem spec.topk_hits__Swap {u0 u : H} {s : Sl} {l : List Hit} {i j : Int} {K : H → Prop} (ho : OwnF u0 u 62 3 s (l.flatMap encH)) (i0 : 0 ≤ i) (i1 : i < l.length) (j0 : 0 ≤ j) (j1 : j < l.length)
    (h : ∀ u', OwnF u0 u' 62 3 s ((swapL l i.toNat j.toNat).flatMap encH) → Else u u' s → K u') : C.topk_hits__Swap s i j u K := by
  have hs := ho.hts
  have hn := hs.len
  apply vc.topk_hits__Swap
  obtain ⟨p, hp, x, hx, c0, c1, c2⟩ := hs.at j0 (show j < (s.n : Int) by omega)
  obtain ⟨q, hq, y, hy, d0, d1, d2⟩ := hs.at i0 (show i < (s.n : Int) by omega)
  refine ⟨p, hp, ⟨j0, by omega⟩, q, hq, ⟨i0, by omega⟩, _, c0, _, c1, _, c2, _, d0, _, d1, _, d2, q, hq, ⟨i0, by omega⟩, ?_⟩
  refine OwnF.store (enc := encH) encH_len ho (by decide) (i := i.toNat) (by omega) (y := x) (encH_one x) hq fun u1 ho1 he1 _ => ⟨p, hp, ⟨j0, by omega⟩, ?_⟩
  refine OwnF.store (enc := encH) encH_len ho1 (by decide) (i := j.toNat) (by simp; omega) (y := y) (encH_one y) hp fun u2 ho2 he2 _ => h u2 ?_ (fun b o hb hne => he2 b o (he1 b o hb hne) hne)
  have hil : i.toNat < l.length := by omega
  have hjl : j.toNat < l.length := by omega
  have ex : l[j.toNat] = x := by rw [List.getElem?_eq_getElem hjl] at hx; exact Option.some.inj hx
  have ey : l[i.toNat] = y := by rw [List.getElem?_eq_getElem hil] at hy; exact Option.some.inj hy
  rw [swapL_eq hil hjl, ex, ey]
  exact ho2

theorem bodyOf {P : Program} {f : FuncId} (h : hasBody P f = true) : ∃ fn, P.funcs[f]? = some fn ∧ fn.body.isSome = true := hasBody_spec h

theorem bLen : hasBody Tryz.prog 140 = true := by kernel_rfl
theorem bLess : hasBody Tryz.prog 141 = true := by kernel_rfl
theorem bSwap : hasBody Tryz.prog 142 = true := by kernel_rfl
theorem bPush : hasBody Tryz.prog 143 = true := by kernel_rfl

theorem TopSt.set {u0 u u' : H} {n : Nat} {k : Int} {l l' : List Hit} {s : Sl} (h : TopSt u0 n k u l) (hn : u n = some (.cells #[.int .i64 k, .slice s.a s.n s.c] 82 (0, 0))) (hs : s.blk ≠ some n)
    (ho : OwnF u0 u' 62 3 s (l'.flatMap encH)) (he : Else u u' s) (hl : l'.length = l.length) : TopSt u0 n k u' l' :=
  ⟨⟨s, he _ _ hn hs, ho, hs⟩, h.out, by rw [hl]; exact h.small⟩

theorem topHeap (u0 : H) (n : Nat) (k : Int) : HeapI (heapV n) (TopSt u0 n k) (fun a b => hlt b a) where
  len := by
    intro u l K h hK
    obtain ⟨s, hn, ho, _⟩ := h.ex
    refine ⟨_, _, _, _, rfl, fun w hw => heap_val mLen hn w hw, bodyOf bLen, vc.topk_hits__Len s u K ?_⟩
    rw [ho.hts.len]; exact hK
  less := by
    intro u l i j K h i0 i1 j0 j1 hK
    obtain ⟨s, hn, ho, _⟩ := h.ex
    exact ⟨_, _, _, _, rfl, fun w hw => heap_val mLess hn w hw, bodyOf bLess, spec.topk_hits__Less ho.hts i0 i1 j0 j1 hK⟩
  swap := by
    intro u l i j K h i0 i1 j0 j1 hK
    obtain ⟨s, hn, ho, hne⟩ := h.ex
    exact ⟨_, _, _, _, rfl, fun w hw => heap_val mSwap hn w hw, bodyOf bSwap, spec.topk_hits__Swap ho i0 i1 j0 j1 fun u' ho' he => hK u' (h.set hn hne ho' he (swapL_len _ _ _))⟩
  small := fun h => by have := h.small; omega

theorem heapLt : LtOk (fun a b : Hit => hlt b a) where
  asymm := fun a b h => hlt_asymm h
  trans := fun a b c h k => hlt_le_trans k h

theorem assertHit (h : Hit) (w : World) : (Instr.typeAssert (.iface 62 (.agg #[.int .i64 h.1, .int .u64 (hiW h.2), .int .u64 (loW h.2)])) 20 62 true).run Tryz.prog w =
    .ok (.tuple #[.agg #[.int .i64 h.1, .int .u64 (hiW h.2), .int .u64 (loW h.2)], .bool true]) w := by kernel_rfl

theorem heap_push {u0 u : H} {n : Nat} {k : Int} {l : List Hit} {x : Hit} {K : H → Prop} (h : TopSt u0 n k u l) (hl : l.length < 1000000) (hK : ∀ u', TopSt u0 n k u' (l ++ [x]) → K u') :
    ClI Tryz.prog (heapV n) "Push" #[.iface 62 (.agg #[.int .i64 x.1, .int .u64 (hiW x.2), .int .u64 (loW x.2)])] [] u K := by
  obtain ⟨s, hn, ho, hne⟩ := h.ex
  obtain ⟨i, m, h1, h2, h3, h4⟩ := methB_spec mPush
  obtain ⟨k', hk'⟩ := fuelOk
  refine ⟨_, _, _, _, rfl, fun w _ => by rw [hk']; exact run_method_ptr h1 h2 h3 h4 undHits, bodyOf bPush, ?_⟩
  refine vc.topk_hits__Push (some ((Addr.mk n 0 none).add 1)) _ u K ?_
  refine SemT.pure [.int .i64 x.1, .int .u64 (hiW x.2), .int .u64 (loW x.2), .bool true] (fun w _ => ?_) (.cons (t := .int .i64) _ (.cons (t := .int .u64) _ (.cons (t := .int .u64) _ (.cons (t := .bool) _ .nil)))) ?_
  · exact assertHit x w
  · refine ⟨fun _ => ⟨_, rfl, s, by rw [add1]; exact H.cell?_of hn 1, ?_⟩, fun hb => by cases hb⟩
    refine sem_push tHeapHits (build_hit' _ _ _) (by decide) rfl (by simp [Value.oneCell']) ho (by have := ho.hts.len; omega) (by have := ho.hts.len; omega) fun s' u' ho' hn' he hblk _ => ⟨_, rfl, ?_⟩
    have hn2 := he _ _ hn hne
    have hne' : s'.blk ≠ some n := fun e => by
      rcases hblk n e with h | h
      · exact hne h
      · rw [hn] at h; cases h
    rw [add1]
    refine ⟨_, _, hn2, rfl, by simp, by simp [Value.oneCell'], hK _ ⟨⟨s', H.ins_same _ _ _, ⟨?_, ?_, ho'.fresh⟩, hne'⟩, h.out, by simp; omega⟩⟩
    · rw [flat_push] at ho'
      exact ho'.own.le fun b o hb hub => by rw [H.ins_other _ _ (fun e => hne' (by rw [hb, e]))]; exact hub
    · intro b o hb
      rw [H.ins_other _ _ (fun e => by rw [e, h.out] at hb; cases hb)]
      exact ho'.le b o hb

end Go.Proofs.YtgfafpiinencpaaGreat
