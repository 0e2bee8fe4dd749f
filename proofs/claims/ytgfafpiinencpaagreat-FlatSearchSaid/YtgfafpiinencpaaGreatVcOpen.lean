/- A row's arguments, opened: what lies in memory where the law is called. -/
import Derived.Test.YtgfafpiinencpaaGreatVcLawA
import Derived.SizedLaws
import Derived.Deep.Slices
import Derived.ChangeSame
import Derived.ChangeOld
import Derived.OpenShut
import Derived.ProofKit
import Derived.WalkKit
import Derived.JoinedOf
set_option maxRecDepth 100000
namespace Go.Proofs.YtgfafpiinencpaaGreat
open Go.ChangeShapes Go.WideShapes Go.ChangeAt Go.RowKit

/-- All that lies in memory. -/
def whole (W : World) : H := fun b => W.heap[b]?

theorem whole_sub (W : World) : Sub (whole W) W := fun _ _ e => e
theorem whole_cell (W : World) (a : Addr) : (whole W).cell? a = W.cell? a := rfl

theorem Step.below {W W' : World} {u' : H} {bs : List Nat} (h : Step (whole W) [] W u' bs W') (k : (whole W).le u') : Below W.heap.size W W' :=
  ⟨h.os, h.tape, h.output, h.size, fun b hb => by
    have : W.heap[b]? = some W.heap[b] := Array.getElem?_eq_getElem hb
    rw [this]
    exact h.sub b _ (k b _ this)⟩

theorem cells3o : Tryz.prog.cellsOf 3 = 1 := by kernel_rfl
theorem cells23o : Tryz.prog.cellsOf 23 = 1 := by kernel_rfl
theorem cells41o : Tryz.prog.cellsOf 49 = 2 := by kernel_rfl
theorem cells24o : Tryz.prog.cellsOf 58 = 1 := by kernel_rfl
theorem cells26o : Tryz.prog.cellsOf 60 = 2 := by kernel_rfl
theorem bytes3o : Tryz.prog.bytesOf 3 = 8 := by kernel_rfl
theorem bytes41o : Tryz.prog.bytesOf 49 = 32 := by kernel_rfl

section
variable {H' : Type} {enc : TypeId × Value → H'}

theorem weights_all {P : Program} {e : TypeId} {d : DataW H'} : ∀ {ds : List (DataW H')} {i : Nat}, ds[i]? = some d → ∀ n ∈ d.weights P e, n ∈ DataW.weightsAll P e ds := by
  intro ds
  induction ds with
  | nil => intro i h; simp at h
  | cons x ds ih =>
    intro i h n hn
    simp only [DataW.weightsAll, List.mem_append]
    cases i with
    | zero => simp at h; subst h; exact .inl hn
    | succ i => exact .inr (ih (by simpa using h) n hn)

/-- Numbers, opened. -/
theorem open_q {W : World} {a : Option Addr} {len cap fuel : Nat} {x : DataW H' × List MemPlace} (h : DataW.trod enc Tryz.prog W 0 (fun _ => true) true fuel 23 [.slice a len cap] = some x) (hw : ∀ n ∈ x.1.weights Tryz.prog 23, n ≤ reachBytes) :
    ∃ q : List Int, Ints (whole W) ⟨a, len, cap⟩ q ∧ q.length ≤ 17592186044416 := by
  have hr : reachBytes = 140737488351232 := by decide
  rcases open_ints Tryz.underlying23 Tryz.underlying3 cells3o h with ⟨hcs, _⟩ | ⟨p, l, c, zs, hcs, _, hl, hm, hz, hx, hcell, hwz⟩
  · simp only [List.cons.injEq, Value.slice.injEq, and_true] at hcs
    obtain ⟨rfl, rfl, rfl⟩ := hcs
    exact ⟨[], ⟨rfl, Nat.le_refl _, by simp, .inl rfl⟩, by simp⟩
  · simp only [List.cons.injEq, Value.slice.injEq, and_true] at hcs
    obtain ⟨rfl, rfl, rfl⟩ := hcs
    simp only [if_true] at hz
    rw [maxLen_eq] at hm
    have hlt : (zs.take len).length = len := by simp; omega
    have hb : zs.length * 8 ≤ reachBytes := by
      have := hw (zs.length * 8) (by
        rw [hx]
        simp only [DataW.weights, show Tryz.prog.underlying 23 = some (.slice 3) from Tryz.underlying23, List.mem_cons]
        left
        rw [bytes3o]
        congr 1
        simp [lits]
        omega)
      exact this
    refine ⟨zs.take len, ⟨by simp; omega, hl, hm, .inr ⟨p, rfl, fun i v e => ?_⟩⟩, by omega⟩
    rw [List.getElem?_map] at e
    rw [whole_cell]
    have hi : i < len := by
      rcases Nat.lt_or_ge i len with k | k
      · exact k
      · rw [List.getElem?_eq_none (by omega)] at e; simp at e
    rw [List.getElem?_take, if_pos hi, List.getElem?_eq_getElem (by omega)] at e
    simp only [Option.map_some, Option.some.injEq] at e
    subst e
    rw [hcell i (by omega), List.getD_eq_getElem?_getD, List.getElem?_eq_getElem (by omega)]
    rfl

instance : Inhabited Rw := ⟨⟨0, ⟨none, 0, 0⟩, []⟩⟩

theorem cells_one {W : World} {v : Value} {fuel : Nat} {x : DataW H' × List MemPlace} (h : DataW.trod enc Tryz.prog W 0 (fun _ => true) true fuel 23 [v] = some x) : ∃ s : Sl, v = .slice s.a s.n s.c := by
  rcases open_ints Tryz.underlying23 Tryz.underlying3 cells3o h with ⟨hcs, _⟩ | ⟨p, l, c, zs, hcs, _⟩
  · exact ⟨⟨none, 0, 0⟩, by simpa using hcs⟩
  · exact ⟨⟨some p, l, c⟩, by simpa using hcs⟩

/-- Rows, opened. -/
theorem open_rows {W : World} {a : Option Addr} {len cap fuel : Nat} {x : DataW H' × List MemPlace} (h : DataW.trod enc Tryz.prog W 0 (fun _ => true) true fuel 22 [.slice a len cap] = some x) (hw : ∀ n ∈ x.1.weights Tryz.prog 22, n ≤ reachBytes) :
    ∃ l : List Rw, Rws (whole W) ⟨a, len, cap⟩ l ∧ (∀ r ∈ l, r.v.length ≤ 17592186044416) ∧ len ≤ 17592186044416 := by
  have hr : reachBytes = 140737488351232 := by decide
  rcases Deep.open_slice Tryz.underlying22 h with ⟨hcs, _⟩ | ⟨p, l, c, m, n, D, Pl, hcs, hb, hl, hm, hmm, hx, hel⟩
  · simp only [List.cons.injEq, Value.slice.injEq, and_true] at hcs
    obtain ⟨rfl, rfl, rfl⟩ := hcs
    exact ⟨[], ⟨⟨rfl, Nat.le_refl _, by simp, .inl rfl⟩, fun _ h => (by cases h)⟩, fun _ h => (by cases h), by omega⟩
  simp only [List.cons.injEq, Value.slice.injEq, and_true] at hcs
  obtain ⟨rfl, rfl, rfl⟩ := hcs
  simp only [if_true] at hmm
  subst hmm
  rw [maxLen_eq] at hm
  have hwt : ∀ k, k ∈ (((List.range len).map D).length + ((List.range (m - len)).map fun j => D (len + j)).length) * Tryz.prog.bytesOf 49 :: (DataW.weightsAll Tryz.prog 49 ((List.range len).map D) ++ DataW.weightsAll Tryz.prog 49 ((List.range (m - len)).map fun j => D (len + j))) → k ≤ reachBytes := by
    intro k hk
    refine hw k ?_
    rw [hx]
    simp only [DataW.weights, show Tryz.prog.underlying 22 = some (.slice 49) from Tryz.underlying22]
    exact hk
  have hcb : len * 32 ≤ reachBytes := by
    have := hwt _ (List.mem_cons_self ..)
    rw [bytes41o] at this
    simp at this
    have e : len + (m - len) = m := by omega
    omega
  have each : ∀ i, i < len → ∃ r : Rw, W.cell? (p.add (i * 2)) = some (.int .i64 r.id) ∧ W.cell? ((p.add (i * 2)).add 1) = some (.slice r.s.a r.s.n r.s.c) ∧ Ints (whole W) r.s r.v ∧ r.v.length ≤ 17592186044416 := by
    intro i hi
    obtain ⟨cs', h1, h2⟩ := hel i (by omega)
    rw [cells41o] at h1
    obtain ⟨_, hlen, hcell⟩ := World.cells?_some h1
    obtain ⟨y0, y1, k, hxy, _, u0, u1⟩ := trod_struct2 Tryz.underlying49 h2
    match cs', hlen with
    | [v0, v1], _ =>
      simp only [cells3o, cells23o, List.drop, List.take] at u0 u1
      obtain ⟨q, e0, d0, _⟩ := DataW.trod_int Tryz.underlying3 u0
      simp only [List.cons.injEq, and_true] at e0
      subst e0
      obtain ⟨s, rfl⟩ := cells_one u1
      have hwi : ∀ n ∈ y1.1.weights Tryz.prog 23, n ≤ reachBytes := by
        intro n hn
        refine hwt n (List.mem_cons_of_mem _ (List.mem_append_left _ (weights_all (i := i) (d := D i) (by simp [hi]) n ?_)))
        have hDi : D i = .agg [y0.1, y1.1] := (Prod.mk.inj hxy).1
        rw [hDi]
        simp only [DataW.weights, show Tryz.prog.underlying 49 = some _ from Tryz.underlying49]
        simp only [List.map_cons, List.map_nil, DataW.weightsEach, List.mem_append]
        exact .inr (.inl hn)
      obtain ⟨zs, hz, hzl⟩ := open_q u1 hwi
      have c0 := hcell 0 (by omega)
      have c1 := hcell 1 (by omega)
      exact ⟨⟨q, s, zs⟩, c0, c1, hz, hzl⟩
  obtain ⟨f, hf⟩ := Deep.choose_lt each
  have hfl : ((List.range len).map f).length = len := by simp
  refine ⟨(List.range len).map f, ⟨⟨?_, hl, hm, .inr ⟨p, rfl, fun j v e => ?_⟩⟩, fun r hr => ?_⟩, fun r hr => ?_, by omega⟩
  · rw [flat_len encR_len, hfl]
  · have hj : j < len * 2 := by
      have := (List.getElem?_eq_some_iff.1 e).1
      rw [flat_len encR_len, hfl] at this
      exact this
    have e1 : j = j / 2 * 2 + j % 2 := by omega
    have hd : j / 2 < len := by omega
    rw [whole_cell]
    rw [e1, flat_get encR_len _ _ _ (Nat.mod_lt _ (by decide))] at e
    rw [List.getElem?_map, List.getElem?_range hd] at e
    simp only [Option.map_some, Option.bind_some] at e
    obtain ⟨g0, g1, _, _⟩ := hf (j / 2) hd
    rw [e1, ← Addr.add_add']
    have hm2 : j % 2 = 0 ∨ j % 2 = 1 := by omega
    rcases hm2 with hm2 | hm2
    · rw [hm2] at e ⊢
      simp only [encR, List.getElem?_cons_zero, Option.some.injEq] at e
      subst e
      exact g0
    · rw [hm2] at e ⊢
      simp only [encR, List.getElem?_cons_succ, List.getElem?_cons_zero, Option.some.injEq] at e
      subst e
      exact g1
  · obtain ⟨i, hi, rfl⟩ := List.mem_map.1 hr
    exact (hf i (by simpa using hi)).2.2.1
  · obtain ⟨i, hi, rfl⟩ := List.mem_map.1 hr
    exact (hf i (by simpa using hi)).2.2.2

/-- A Wide, opened. -/
theorem open_wide {W : World} {cs : Array Value} {fuel : Nat} {x : DataW H' × List MemPlace} (hcs : cs.size = 2) (h : DataW.trod enc Tryz.prog W 0 (fun _ => true) true fuel 60 cs.toList = some x) :
    ∃ hi lo : Int, U64 hi ∧ U64 lo ∧ cs = #[.int .u64 hi, .int .u64 lo] := by
  obtain ⟨y0, y1, k, _, _, u0, u1⟩ := trod_struct2 Tryz.underlying60 h
  obtain ⟨cl⟩ := cs
  rcases cl with _ | ⟨x0, _ | ⟨x1, _ | ⟨x2, r⟩⟩⟩
  · simp at hcs
  · simp at hcs
  · simp only [cells24o, List.drop, List.take] at u0 u1
    obtain ⟨m0, e0, _, w0⟩ := DataW.trod_int Tryz.underlying58 u0
    obtain ⟨m1, e1, _, w1⟩ := DataW.trod_int Tryz.underlying58 u1
    simp only [List.cons.injEq, and_true] at e0 e1
    subst e0; subst e1
    have g : ∀ m : Int, (Lit.int .u64 m).wf = true → U64 m := fun m hm => by
      simp only [Lit.wf, Bool.and_eq_true, decide_eq_true_eq] at hm
      have e1 : IntKind.min .u64 = 0 := by decide
      have e2 : IntKind.max .u64 = 18446744073709551615 := by decide
      rw [e1, e2] at hm
      exact ⟨hm.1, by omega⟩
    exact ⟨m0, m1, g _ w0, g _ w1, rfl⟩
  · simp at hcs

end

end Go.Proofs.YtgfafpiinencpaaGreat
