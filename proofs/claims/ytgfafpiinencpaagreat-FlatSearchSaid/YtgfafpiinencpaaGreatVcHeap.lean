/- container/heap over whatever value with methods: what up, down, Push, Fix do. -/
import Derived.Test.YtgfafpiinencpaaGreatVcHits3
import Derived.Test.YtgfafpiinencpaaGreatVcHeapPure
namespace Go.Proofs.YtgfafpiinencpaaGreat

/-! ### methods found -/

theorem wrapNil (ts : Array TypeId) (t : TypeId) (p : Addr) (a b : ByteArray) : Builtin.ssaWrapNilChk_ ts t #[.pointer (some p), .string a, .string b] = pure (.pointer (some p)) := rfl

/-- A method that an entry of a pointer's method table names, its receiver a value: the value is loaded. -/
theorem run_method_val {P : Program} {fuel : Nat} {t e : TypeId} {i : TypeInfo} {name : String} {m : Method} {f : FuncId} (hi : P.info? t = some i) (hm : i.methods.find? (·.name == name) = some m) (hp : m.path = #[])
    (hf : m.func = some (f, false)) (hu : P.underlying t = some (.pointer e)) {p : Addr} {v : Value} {w : World} (hl : (loadVar e p).run P w = .ok v w) :
    (method (fuel + 1) t (.pointer (some p)) name).run P w = .ok (f, v) w := by
  unfold method
  simp [Sem.run_bind, typeInfo, hi, Result.andThen, hm, hp, hf, follow, receiverAt, run_underlying hu, Place.get, wrapNil, strVal, asAddr, hl]

theorem run_method_ptr {P : Program} {fuel : Nat} {t e : TypeId} {i : TypeInfo} {name : String} {m : Method} {f : FuncId} (hi : P.info? t = some i) (hm : i.methods.find? (·.name == name) = some m) (hp : m.path = #[])
    (hf : m.func = some (f, true)) (hu : P.underlying t = some (.pointer e)) {p : Option Addr} {w : World} :
    (method (fuel + 1) t (.pointer p) name).run P w = .ok (f, .pointer p) w := by
  unfold method
  simp [Sem.run_bind, typeInfo, hi, Result.andThen, hm, hp, hf, follow, receiverAt, run_underlying hu, Place.get]

theorem swapL_out {α : Type} {l : List α} {i j k : Nat} (hi : i ≠ k) (hj : j ≠ k) : (swapL l i j)[k]? = l[k]? := by
  unfold swapL
  split
  · rw [List.getElem?_set_ne hj, List.getElem?_set_ne hi]
  · rfl

/-- What one asks of a value that is a heap. -/
structure HeapI {α : Type} [Inhabited α] (recv : Value) (St : H → List α → Prop) (lt : α → α → Bool) : Prop where
  len : ∀ {u l} {K : Int → H → Prop}, St u l → K (l.length : Int) u → ClI Tryz.prog recv "Len" #[] [.one (.int .i64)] u K
  less : ∀ {u l} {i j : Int} {K : Bool → H → Prop}, St u l → 0 ≤ i → i < l.length → 0 ≤ j → j < l.length → K (lt (l.getD i.toNat default) (l.getD j.toNat default)) u →
    ClI Tryz.prog recv "Less" #[.int .i64 i, .int .i64 j] [.one .bool] u K
  swap : ∀ {u l} {i j : Int} {K : H → Prop}, St u l → 0 ≤ i → i < l.length → 0 ≤ j → j < l.length → (∀ u', St u' (swapL l i.toNat j.toNat) → K u') →
    ClI Tryz.prog recv "Swap" #[.int .i64 i, .int .i64 j] [] u K
  small : ∀ {u l}, St u l → l.length ≤ 1099511627776

section
variable {α : Type} [Inhabited α] {recv : Value} {St : H → List α → Prop} {lt : α → α → Bool}

theorem spec.heap_up (I : HeapI recv St lt) (L : LtOk lt) {u : H} {l : List α} {j : Int} {K : H → Prop} (hs : St u l) (h0 : 0 ≤ j) (hu : UpI lt l j.toNat)
    (hK : ∀ u' l', St u' l' → l'.Perm l → Hp lt l'.length l' → K u') : C.heap_up recv j u K := by
  have hsm := I.small hs
  apply vc.heap_up
  refine ⟨fun x v => 0 ≤ x ∧ ∃ l', St v l' ∧ l'.Perm l ∧ UpI lt l' x.toNat, fun x _ => x.toNat, ⟨h0, l, hs, .refl _, hu⟩, ?_⟩
  rintro x v ⟨x0, l', hs', hp, hu'⟩
  have hlen := hp.length_eq
  have hin := hu'.inn
  refine ⟨⟨by omega, by omega⟩, by decide, ?_⟩
  by_cases hx : x = 0
  · subst hx
    refine ⟨⟨by decide, by decide⟩, fun _ => hK _ _ hs' hp (hu'.done (.inl rfl)), fun h => absurd (by decide) h⟩
  · have ht : Int.tdiv (x - 1) 2 = (x - 1) / 2 := Int.tdiv_eq_ediv_of_nonneg (by omega)
    have hpa : ((x - 1) / 2).toNat = pa x.toNat := by unfold pa; omega
    rw [ht]
    refine ⟨⟨by omega, by omega⟩, fun h => by omega, fun _ => I.less hs' x0 (by omega) (by omega) (by omega) ?_⟩
    rw [hpa]
    refine ⟨fun hb => hK _ _ hs' hp (hu'.done (.inr (by simpa using hb))), fun hb => I.swap hs' (by omega) (by omega) x0 (by omega) fun u' hs2 => ⟨⟨by omega, _, hs2, ?_, ?_⟩, by dsimp only; omega⟩⟩
    · rw [hpa]
      exact (swapL_perm (by unfold pa; omega) hin).trans hp
    · rw [hpa]
      exact hu'.step L (by omega) hb

theorem spec.heap_down (I : HeapI recv St lt) (L : LtOk lt) {u : H} {l : List α} {j n : Int} {K : Bool → H → Prop} (hs : St u l) (h0 : 0 ≤ j) (hn : n ≤ l.length) (hu : DownI lt n.toNat l j.toNat)
    (hK : ∀ b u' l', St u' l' → l'.Perm l → Hp lt n.toNat l' → (∀ k : Nat, n ≤ k → l'[k]? = l[k]?) → K b u') (hj : j < n ∨ j ≤ 0) : C.heap_down recv j n u K := by
  have hsm := I.small hs
  apply vc.heap_down
  intro K0 hK0
  refine ⟨fun x v => 0 ≤ x ∧ (x < n ∨ x ≤ 0) ∧ ∃ l', St v l' ∧ l'.Perm l ∧ DownI lt n.toNat l' x.toNat ∧ ∀ k : Nat, n ≤ k → l'[k]? = l[k]?, fun x _ => (n - x).toNat, ⟨h0, hj, l, hs, .refl _, hu, fun _ _ => rfl⟩, ?_⟩
  rintro x v ⟨x0, hxn, l', hs', hp, hd, hout⟩
  have hlen := hp.length_eq
  have done : ∀ {v'}, St v' l' → (∀ i, 0 < i → i < n.toNat → pa i = x.toNat → lt (l'.getD i default) (l'.getD x.toNat default) = false) → K0 x v' := fun hs2 h =>
    hK0 _ _ (hK _ _ _ hs2 hp (hd.done h) hout)
  refine ⟨⟨by omega, by omega⟩, ⟨by omega, by omega⟩, fun K7 hK7 => ⟨fun h => done hs' fun i i0 i1 i2 => by unfold pa at i2; omega, fun h => ⟨fun h2 => by omega, fun _ => hK7 _ ?_⟩⟩⟩
  clear hK7 K7
  intro K9 hK9
  have turn : ∀ c : Int, 0 < c → c < n → pa c.toNat = x.toNat → (∀ i, 0 < i → i < n.toNat → pa i = x.toNat → lt (l'.getD i default) (l'.getD c.toNat default) = false) → K9 c v := by
    intro c c0 c1 c2 hm
    have hcx : x < c := by unfold pa at c2; omega
    refine hK9 _ _ (I.less hs' (by omega) (by omega) x0 (by omega) ⟨fun hb => done hs' fun i i0 i1 i2 => ?_, fun hb => I.swap hs' x0 (by omega) (by omega) (by omega) fun u' hs2 => ⟨⟨by omega, .inl c1, _, hs2, ?_, ?_, ?_⟩, by dsimp only; omega⟩⟩)
    · exact L.trans _ _ _ (by simpa using hb) (hm i i0 i1 i2)
    · exact (swapL_perm (by omega) (by omega)).trans hp
    · exact hd.step L (by omega) (by omega) c2 hb hm
    · intro k hk
      rw [swapL_out (by omega) (by omega)]
      exact hout k hk
  clear hK9
  have irr : ∀ a, lt a a = false := fun a => by
    cases e : lt a a with
    | false => rfl
    | true => have := L.asymm _ _ e; rw [e] at this; cases this
  have p1 : pa (2 * x + 1).toNat = x.toNat := by unfold pa; omega
  have p2 : pa (2 * x + 1 + 1).toNat = x.toNat := by unfold pa; omega
  have two : ∀ i, 0 < i → i < n.toNat → pa i = x.toNat → i = (2 * x + 1).toNat ∨ i = (2 * x + 1 + 1).toNat := fun i i0 _ i2 => by unfold pa at i2; omega
  refine ⟨⟨by omega, by omega⟩, fun h2 => I.less hs' (by omega) (by omega) (by omega) (by omega) ⟨fun hb => turn _ (by omega) h2 p2 fun i i0 i1 i2 => ?_, fun hb => turn _ (by omega) (by omega) p1 fun i i0 i1 i2 => ?_⟩,
    fun h2 => turn _ (by omega) (by omega) p1 fun i i0 i1 i2 => ?_⟩
  · rcases two i i0 i1 i2 with rfl | rfl
    · exact L.asymm _ _ hb
    · exact irr _
  · rcases two i i0 i1 i2 with rfl | rfl
    · exact irr _
    · exact hb
  · rcases two i i0 i1 i2 with rfl | rfl
    · exact irr _
    · omega

theorem Hp.downI {l : List α} {n : Nat} (h : Hp lt n l) (hn : n ≤ l.length) (y : α) : DownI lt n (l.set 0 y) 0 := by
  refine ⟨by simpa using hn, fun i i0 i1 i2 => ?_, fun i i0 i1 i2 h0 => by omega⟩
  have hp : pa i ≠ 0 := i2
  have g : ∀ k, k ≠ 0 → (l.set 0 y).getD k default = l.getD k default := fun k hk => by
    rw [List.getD_eq_getElem?_getD, List.getElem?_set_ne (Ne.symm hk), ← List.getD_eq_getElem?_getD]
  rw [g i (by omega), g _ hp]
  exact h i i0 i1

/-- Where the root may be wrong alone. -/
theorem spec.heap_Fix (I : HeapI recv St lt) (L : LtOk lt) {u : H} {l : List α} {K : H → Prop} (hs : St u l) (hne : 0 < l.length) (hd : DownI lt l.length l 0)
    (hK : ∀ u' l', St u' l' → l'.Perm l → Hp lt l'.length l' → K u') : C.heap_Fix recv 0 u K := by
  apply vc.heap_Fix
  refine I.len hs (spec.heap_down I L hs (by omega) (by omega) (by simpa using hd) (fun b u' l' hs' hp hh _ => ?_) (.inl (by omega)))
  have hlen := hp.length_eq
  have hh' : Hp lt l'.length l' := by rw [hlen]; simpa using hh
  refine ⟨fun _ => spec.heap_up I L hs' (by omega) ⟨by show 0 < l'.length; omega, fun i i0 i1 _ => hh' i i0 i1, fun i i0 i1 _ h => absurd h (by decide)⟩ fun u2 l2 hs2 hp2 hh2 => hK _ _ hs2 (hp2.trans hp) hh2, fun _ => hK _ _ hs' hp hh'⟩

theorem spec.heap_Push (I : HeapI recv St lt) (L : LtOk lt) {u : H} {l : List α} {x : Value} {y : α} {K : H → Prop} (hh : Hp lt l.length l)
    (hpush : ∀ {K : H → Prop}, (∀ u', St u' (l ++ [y]) → K u') → ClI Tryz.prog recv "Push" #[x] [] u K)
    (hK : ∀ u' l', St u' l' → l'.Perm (l ++ [y]) → Hp lt l'.length l' → K u') : C.heap_Push recv x u K := by
  apply vc.heap_Push
  refine hpush fun u' hs => I.len hs ?_
  have hsm := I.small hs
  simp only [List.length_append, List.length_singleton] at hsm ⊢
  refine ⟨⟨by omega, by omega⟩, spec.heap_up I L hs (by omega) ⟨by simp, fun i i0 i1 i2 => ?_, fun i i0 i1 i2 => ?_⟩ hK⟩
  · simp only [List.length_append, List.length_singleton] at i1
    have hi : i < l.length := by omega
    have g : ∀ k, k < l.length → (l ++ [y]).getD k default = l.getD k default := fun k hk => by
      rw [List.getD_eq_getElem?_getD, List.getElem?_append_left hk, ← List.getD_eq_getElem?_getD]
    rw [g i hi, g _ (by unfold pa; omega)]
    exact hh i i0 hi
  · simp only [List.length_append, List.length_singleton] at i1
    unfold pa at i2
    omega

end

end Go.Proofs.YtgfafpiinencpaaGreat
