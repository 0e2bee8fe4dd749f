/- Texts of mine, joined by merge.py: VcF1, VcWide, VcHits, VcRef, VcRows, VcHits2. -/
import Derived.Test.YtljbcihbgeiacaaGreatMne3
set_option maxRecDepth 100000

/- VcF1 -/
set_option linter.all false
namespace Go.Proofs.YtljbcihbgeiacaaGreat
theorem vc.heap_down (a0 : Value) (a1 : Int) (a2 : Int) (u : H) (K : Bool → H → Prop) (h : ∀ K0 : (Int → (H → Prop)), (∀ x1 : Int, ∀ u2 : H, (K (@decide (a1 < x1) (@inferInstance (@Decidable (@LT.lt @Int @Int.instLTInt a1 x1)) (@Int.decLt a1 x1))) u2) → K0 x1 u2) → ∃ I3 : (Int → (H → Prop)), ∃ I4 : (Int → (H → Nat)), (I3 a1 u) ∧ (∀ x5 : Int, ∀ u6 : H, (I3 x5 u6) → (InR (2 * x5)) ∧ ((InR ((2 * x5) + 1)) ∧ (∀ K7 : (H → Prop), (∀ u8 : H, (∀ K9 : (Int → (H → Prop)), (∀ x10 : Int, ∀ u11 : H, (ClI Tryz.prog a0 "Less" #[(Value.int IntKind.i64 x10), (Value.int IntKind.i64 x5)] [(Sh.one CT.bool)] u11 (fun (b12 : Bool) (u13 : H) => ((¬ (b12 = Bool.true)) → K0 x5 u13) ∧ ((b12 = Bool.true) → ClI Tryz.prog a0 "Swap" #[(Value.int IntKind.i64 x5), (Value.int IntKind.i64 x10)] [] u13 (fun (u14 : H) => (I3 x10 u14) ∧ ((I4 x10 u14) < (I4 x5 u6)))))) → K9 x10 u11) → (InR (((2 * x5) + 1) + 1)) ∧ ((((((2 * x5) + 1) + 1) < a2) → ClI Tryz.prog a0 "Less" #[(Value.int IntKind.i64 (((2 * x5) + 1) + 1)), (Value.int IntKind.i64 ((2 * x5) + 1))] [(Sh.one CT.bool)] u8 (fun (b15 : Bool) (u16 : H) => ((b15 = Bool.true) → K9 (((2 * x5) + 1) + 1) u16) ∧ ((b15 = Bool.false) → K9 ((2 * x5) + 1) u16))) ∧ ((¬ ((((2 * x5) + 1) + 1) < a2)) → K9 ((2 * x5) + 1) u8))) → K7 u8) → ((a2 ≤ ((2 * x5) + 1)) → K0 x5 u6) ∧ ((¬ (a2 ≤ ((2 * x5) + 1))) → ((((2 * x5) + 1) < 0) → K0 x5 u6) ∧ ((¬ (((2 * x5) + 1) < 0)) → K7 u6)))))) : C.heap_down a0 a1 a2 u K :=
  fn_sound' (C := { P := Tryz.prog, exp := [], wrap := false, eqT := eqT, ent := [], nxt := [] }) (args := [a0, (Value.int IntKind.i64 a1), (Value.int IntKind.i64 a2)]) (good _ _) Tryz.func137 (by kernel_rfl) [(7, ⟨[(7, .int .i64)], []⟩), (28, ⟨[(7, .int .i64)], []⟩), (225, ⟨[], []⟩), (903, ⟨[(9, .int .i64)], []⟩)] (by kernel_rfl) (by kernel_rfl) (Eq.mp (by kernel_rfl) h)
theorem vc.slices_Clone__api_Row_ (a0 : Sl) (u : H) (K : Sl → H → Prop) (h : ((a0.a = none) → K (Sl.mk none 0 0) u) ∧ ((¬ (a0.a = none)) → SemT Tryz.prog (Instr.buildSlice 22 0 #[]) [(Sh.one CT.slice)] u (fun (s0 : Sl) (u1 : H) => SemT Tryz.prog (Builtin.append_ #[22, 22] 22 #[(Value.slice s0.a s0.n s0.c), (Value.slice a0.a a0.n a0.c)]) [(Sh.one CT.slice)] u1 (fun (s2 : Sl) (u3 : H) => K (Sl.mk s2.a s2.n s2.c) u3)))) : C.slices_Clone__api_Row_ a0 u K :=
  fn_sound' (C := { P := Tryz.prog, exp := [], wrap := false, eqT := eqT, ent := [], nxt := [] }) (args := [(Value.slice a0.a a0.n a0.c)]) (good _ _) Tryz.func138 (by kernel_rfl) [] (by kernel_rfl) (by kernel_rfl) (Eq.mp (by kernel_rfl) h)
theorem vc.theodoliteref06_vectors (a0 : Sl) (a1 : Int) (u : H) (K : Int → H → Prop) (h : ∃ I0 : (Int → (Int → (H → Prop))), ∃ I1 : (Int → (Int → (H → Nat))), (I0 0 0 u) ∧ (∀ x2 : Int, ∀ x3 : Int, ∀ u4 : H, (I0 x2 x3 u4) → ((x3 < (a0.n : Int)) → ∃ r5 : Addr, (a0.a = (some r5)) ∧ ((((0 : Int) ≤ x3) ∧ (x3 < (a0.n : Int))) ∧ (∃ s6 : Sl, ((H.cell? u4 (Addr.add r5 ((Int.toNat x3) * 1))) = (some (Value.slice s6.a s6.n s6.c))) ∧ (C.theodoliteref03_Check s6 a1 u4 (fun (x7 : Int) (u8 : H) => ((¬ (x7 = 0)) → K x7 u8) ∧ ((x7 = 0) → (InR (x3 + 1)) ∧ ((I0 x2 (x3 + 1) u8) ∧ ((I1 x2 (x3 + 1) u8) < (I1 x2 x3 u4))))))))) ∧ ((¬ (x3 < (a0.n : Int))) → K 0 u4))) : C.theodoliteref06_vectors a0 a1 u K :=
  fn_sound' (C := { P := Tryz.prog, exp := [], wrap := false, eqT := eqT, ent := [], nxt := [] }) (args := [(Value.slice a0.a a0.n a0.c), (Value.int IntKind.i64 a1)]) (good _ _) Tryz.func140 (by kernel_rfl) [(26, ⟨[(4, .int .i64), (5, .int .i64)], []⟩)] (by kernel_rfl) (by kernel_rfl) (Eq.mp (by kernel_rfl) h)
theorem vc.theodoliteref04_Source__Below (a0 : (Option Addr)) (a1 : Int) (u : H) (K : Int → Int → H → Prop) (h : ∀ K0 : (Int → (Int → (H → Prop))), (∀ x1 : Int, ∀ x2 : Int, ∀ u3 : H, (C.theodoliteref04_Source__Next a0 u3 (fun (x4 : Int) (u5 : H) => ((IntKind.wrap IntKind.u64 a1) ≠ 0) ∧ (K (IntKind.wrap IntKind.i64 (Int.tmod x4 (IntKind.wrap IntKind.u64 a1))) 0 u5))) → K0 x1 x2 u3) → ((a1 < 1) → K 0 1 u) ∧ ((¬ (a1 < 1)) → (((1000000000 : Int) < a1) → K 0 1 u) ∧ ((¬ ((1000000000 : Int) < a1)) → K0 0 0 u))) : C.theodoliteref04_Source__Below a0 a1 u K :=
  fn_sound' (C := { P := Tryz.prog, exp := [], wrap := false, eqT := eqT, ent := [], nxt := [] }) (args := [(Value.pointer a0), (Value.int IntKind.i64 a1)]) (good _ _) Tryz.func141 (by kernel_rfl) [(3, ⟨[(4, .int .i64), (5, .int .i64)], []⟩)] (by kernel_rfl) (by kernel_rfl) (Eq.mp (by kernel_rfl) h)
theorem vc.theodoliteref06_down (a0 : Int) (a1 : Int) (u : H) (K : Int → H → Prop) (h : (a1 ≠ 0) ∧ ((InR (Int.tdiv a0 a1)) ∧ ((InR ((Int.tdiv a0 a1) * a1)) ∧ (((a0 < ((Int.tdiv a0 a1) * a1)) → (InR ((Int.tdiv a0 a1) - 1)) ∧ (K ((Int.tdiv a0 a1) - 1) u)) ∧ ((¬ (a0 < ((Int.tdiv a0 a1) * a1))) → K (Int.tdiv a0 a1) u))))) : C.theodoliteref06_down a0 a1 u K :=
  fn_sound' (C := { P := Tryz.prog, exp := [], wrap := false, eqT := eqT, ent := [], nxt := [] }) (args := [(Value.int IntKind.i64 a0), (Value.int IntKind.i64 a1)]) (good _ _) Tryz.func142 (by kernel_rfl) [] (by kernel_rfl) (by kernel_rfl) (Eq.mp (by kernel_rfl) h)
theorem vc.cmp_Or_int_ (a0 : Sl) (u : H) (K : Int → H → Prop) (h : ∃ I0 : (Int → (Int → (H → Prop))), ∃ I1 : (Int → (Int → (H → Nat))), (I0 0 0 u) ∧ (∀ x2 : Int, ∀ x3 : Int, ∀ u4 : H, (I0 x2 x3 u4) → ((x3 < (a0.n : Int)) → ∃ r5 : Addr, (a0.a = (some r5)) ∧ ((((0 : Int) ≤ x3) ∧ (x3 < (a0.n : Int))) ∧ (∃ x6 : Int, ((H.cell? u4 (Addr.add r5 ((Int.toNat x3) * 1))) = (some (Value.int IntKind.i64 x6))) ∧ (((¬ (x6 = 0)) → K x6 u4) ∧ ((x6 = 0) → (InR (x3 + 1)) ∧ ((I0 x2 (x3 + 1) u4) ∧ ((I1 x2 (x3 + 1) u4) < (I1 x2 x3 u4)))))))) ∧ ((¬ (x3 < (a0.n : Int))) → K 0 u4))) : C.cmp_Or_int_ a0 u K :=
  fn_sound' (C := { P := Tryz.prog, exp := [], wrap := false, eqT := eqT, ent := [], nxt := [] }) (args := [(Value.slice a0.a a0.n a0.c)]) (good _ _) Tryz.func155 (by kernel_rfl) [(58, ⟨[(2, .int .i64), (8, .int .i64)], []⟩)] (by kernel_rfl) (by kernel_rfl) (Eq.mp (by kernel_rfl) h)
theorem vc.cmp_Compare_int_ (a0 : Int) (a1 : Int) (u : H) (K : Int → H → Prop) (h : C.cmp_isNaN_int_ a0 u (fun (b0 : Bool) (u1 : H) => C.cmp_isNaN_int_ a1 u1 (fun (b2 : Bool) (u3 : H) => ((b0 = Bool.true) → ((b2 = Bool.true) → K 0 u3) ∧ ((b2 = Bool.false) → K (-1) u3)) ∧ ((b0 = Bool.false) → ((b2 = Bool.true) → K 1 u3) ∧ ((b2 = Bool.false) → ((a0 < a1) → K (-1) u3) ∧ ((¬ (a0 < a1)) → ((a1 < a0) → K 1 u3) ∧ ((¬ (a1 < a0)) → K 0 u3))))))) : C.cmp_Compare_int_ a0 a1 u K :=
  fn_sound' (C := { P := Tryz.prog, exp := [], wrap := false, eqT := eqT, ent := [], nxt := [] }) (args := [(Value.int IntKind.i64 a0), (Value.int IntKind.i64 a1)]) (good _ _) Tryz.func156 (by kernel_rfl) [] (by kernel_rfl) (by kernel_rfl) (Eq.mp (by kernel_rfl) h)
theorem vc.theodoliteref01_Num__Times (a0_0 : Int) (a0_1 : Int) (a0_2 : Int) (a0_3 : Int) (a0_4 : Int) (a0_5 : Int) (a0_6 : Int) (a0_7 : Int) (a0_8 : Bool) (a1_0 : Int) (a1_1 : Int) (a1_2 : Int) (a1_3 : Int) (a1_4 : Int) (a1_5 : Int) (a1_6 : Int) (a1_7 : Int) (a1_8 : Bool) (u : H) (K : Int → Int → Int → Int → Int → Int → Int → Int → Bool → H → Prop) (h : ∀ n0 : Nat, ((u n0) = none) → ∀ n1 : Nat, (((u.ins n0 (Go.Obj.cells #[(Value.int IntKind.i64 a0_0), (Value.int IntKind.i64 a0_1), (Value.int IntKind.i64 a0_2), (Value.int IntKind.i64 a0_3), (Value.int IntKind.i64 a0_4), (Value.int IntKind.i64 a0_5), (Value.int IntKind.i64 a0_6), (Value.int IntKind.i64 a0_7), (Value.bool a0_8)] 140 (0, 0))) n1) = none) → ∀ K2 : (Int → (Int → (Int → (Int → (Int → (Int → (Int → (Int → (Bool → (H → Prop)))))))))), (∀ x3 : Int, ∀ x4 : Int, ∀ x5 : Int, ∀ x6 : Int, ∀ x7 : Int, ∀ x8 : Int, ∀ x9 : Int, ∀ x10 : Int, ∀ b11 : Bool, ∀ u12 : H, (∃ I13 : (Int → (Int → (Int → (Int → (Int → (Int → (Int → (Int → (Int → (Bool → (H → Prop))))))))))), ∃ I14 : (Int → (Int → (Int → (Int → (Int → (Int → (Int → (Int → (Int → (Bool → (H → Nat))))))))))), (I13 0 x3 x4 x5 x6 x7 x8 x9 x10 b11 u12) ∧ (∀ x15 : Int, ∀ x16 : Int, ∀ x17 : Int, ∀ x18 : Int, ∀ x19 : Int, ∀ x20 : Int, ∀ x21 : Int, ∀ x22 : Int, ∀ x23 : Int, ∀ b24 : Bool, ∀ u25 : H, (I13 x15 x16 x17 x18 x19 x20 x21 x22 x23 b24 u25) → ((x15 < 8) → ∃ I26 : (Int → (Int → (Int → (Int → (Int → (Int → (Int → (Int → (Int → (Bool → (H → Prop))))))))))), ∃ I27 : (Int → (Int → (Int → (Int → (Int → (Int → (Int → (Int → (Int → (Bool → (H → Nat))))))))))), (I26 0 x16 x17 x18 x19 x20 x21 x22 x23 b24 u25) ∧ (∀ x28 : Int, ∀ x29 : Int, ∀ x30 : Int, ∀ x31 : Int, ∀ x32 : Int, ∀ x33 : Int, ∀ x34 : Int, ∀ x35 : Int, ∀ x36 : Int, ∀ b37 : Bool, ∀ u38 : H, (I26 x28 x29 x30 x31 x32 x33 x34 x35 x36 b37 u38) → ((x28 < 8) → (2 ≤ 8) ∧ ((((0 : Int) ≤ x15) ∧ (x15 < (8 : Int))) ∧ ((2 ≤ 8) ∧ ((((0 : Int) ≤ x28) ∧ (x28 < (8 : Int))) ∧ (∃ x39 : Int, ((H.cell? u38 (Addr.add (Addr.mk n0 0 none) ((Int.toNat x15) * 1))) = (some (Value.int IntKind.i64 x39))) ∧ (∃ x40 : Int, ((H.cell? u38 (Addr.add (Addr.mk n1 0 none) ((Int.toNat x28) * 1))) = (some (Value.int IntKind.i64 x40))) ∧ ((InR (x39 * x40)) ∧ (∀ K41 : (Bool → (H → Prop)), (∀ b42 : Bool, ∀ u43 : H, (((b42 = Bool.true) → (InR (x28 + 1)) ∧ ((I26 (x28 + 1) x29 x30 x31 x32 x33 x34 x35 x36 Bool.true u43) ∧ ((I27 (x28 + 1) x29 x30 x31 x32 x33 x34 x35 x36 Bool.true u43) < (I27 x28 x29 x30 x31 x32 x33 x34 x35 x36 b37 u38)))) ∧ ((b42 = Bool.false) → (InR (x15 + x28)) ∧ (C.theodoliteref01_Num__plus x29 x30 x31 x32 x33 x34 x35 x36 b37 (x15 + x28) (x39 * x40) u43 (fun (x44 : Int) (x45 : Int) (x46 : Int) (x47 : Int) (x48 : Int) (x49 : Int) (x50 : Int) (x51 : Int) (b52 : Bool) (u53 : H) => (InR (x28 + 1)) ∧ ((I26 (x28 + 1) x44 x45 x46 x47 x48 x49 x50 x51 b52 u53) ∧ ((I27 (x28 + 1) x44 x45 x46 x47 x48 x49 x50 x51 b52 u53) < (I27 x28 x29 x30 x31 x32 x33 x34 x35 x36 b37 u38))))))) → K41 b42 u43) → (((0 : Int) < (x39 * x40)) → (InR (x15 + x28)) ∧ (K41 (@decide ((8 : Int) ≤ (x15 + x28)) (@inferInstance (@Decidable (@LE.le @Int @Int.instLEInt (@OfNat.ofNat @Int 8 (@instOfNat 8)) (@HAdd.hAdd @Int @Int @Int (@instHAdd @Int @Int.instAdd) x15 x28))) (@Int.decLe (@OfNat.ofNat @Int 8 (@instOfNat 8)) (@HAdd.hAdd @Int @Int @Int (@instHAdd @Int @Int.instAdd) x15 x28)))) u38)) ∧ ((¬ ((0 : Int) < (x39 * x40))) → K41 Bool.false u38))))))))) ∧ ((¬ (x28 < 8)) → (InR (x15 + 1)) ∧ ((I13 (x15 + 1) x29 x30 x31 x32 x33 x34 x35 x36 b37 u38) ∧ ((I14 (x15 + 1) x29 x30 x31 x32 x33 x34 x35 x36 b37 u38) < (I14 x15 x16 x17 x18 x19 x20 x21 x22 x23 b24 u25)))))) ∧ ((¬ (x15 < 8)) → K x16 x17 x18 x19 x20 x21 x22 x23 b24 u25))) → K2 x3 x4 x5 x6 x7 x8 x9 x10 b11 u12) → ∃ b54 : Bool, ((H.cell? ((u.ins n0 (Go.Obj.cells #[(Value.int IntKind.i64 a0_0), (Value.int IntKind.i64 a0_1), (Value.int IntKind.i64 a0_2), (Value.int IntKind.i64 a0_3), (Value.int IntKind.i64 a0_4), (Value.int IntKind.i64 a0_5), (Value.int IntKind.i64 a0_6), (Value.int IntKind.i64 a0_7), (Value.bool a0_8)] 140 (0, 0))).ins n1 (Go.Obj.cells #[(Value.int IntKind.i64 a1_0), (Value.int IntKind.i64 a1_1), (Value.int IntKind.i64 a1_2), (Value.int IntKind.i64 a1_3), (Value.int IntKind.i64 a1_4), (Value.int IntKind.i64 a1_5), (Value.int IntKind.i64 a1_6), (Value.int IntKind.i64 a1_7), (Value.bool a1_8)] 140 (0, 0))) (Addr.add (Addr.mk n0 0 none) 8)) = (some (Value.bool b54))) ∧ (((b54 = Bool.true) → K2 0 0 0 0 0 0 0 0 Bool.true ((u.ins n0 (Go.Obj.cells #[(Value.int IntKind.i64 a0_0), (Value.int IntKind.i64 a0_1), (Value.int IntKind.i64 a0_2), (Value.int IntKind.i64 a0_3), (Value.int IntKind.i64 a0_4), (Value.int IntKind.i64 a0_5), (Value.int IntKind.i64 a0_6), (Value.int IntKind.i64 a0_7), (Value.bool a0_8)] 140 (0, 0))).ins n1 (Go.Obj.cells #[(Value.int IntKind.i64 a1_0), (Value.int IntKind.i64 a1_1), (Value.int IntKind.i64 a1_2), (Value.int IntKind.i64 a1_3), (Value.int IntKind.i64 a1_4), (Value.int IntKind.i64 a1_5), (Value.int IntKind.i64 a1_6), (Value.int IntKind.i64 a1_7), (Value.bool a1_8)] 140 (0, 0)))) ∧ ((b54 = Bool.false) → ∃ b55 : Bool, ((H.cell? ((u.ins n0 (Go.Obj.cells #[(Value.int IntKind.i64 a0_0), (Value.int IntKind.i64 a0_1), (Value.int IntKind.i64 a0_2), (Value.int IntKind.i64 a0_3), (Value.int IntKind.i64 a0_4), (Value.int IntKind.i64 a0_5), (Value.int IntKind.i64 a0_6), (Value.int IntKind.i64 a0_7), (Value.bool a0_8)] 140 (0, 0))).ins n1 (Go.Obj.cells #[(Value.int IntKind.i64 a1_0), (Value.int IntKind.i64 a1_1), (Value.int IntKind.i64 a1_2), (Value.int IntKind.i64 a1_3), (Value.int IntKind.i64 a1_4), (Value.int IntKind.i64 a1_5), (Value.int IntKind.i64 a1_6), (Value.int IntKind.i64 a1_7), (Value.bool a1_8)] 140 (0, 0))) (Addr.add (Addr.mk n1 0 none) 8)) = (some (Value.bool b55))) ∧ (K2 0 0 0 0 0 0 0 0 b55 ((u.ins n0 (Go.Obj.cells #[(Value.int IntKind.i64 a0_0), (Value.int IntKind.i64 a0_1), (Value.int IntKind.i64 a0_2), (Value.int IntKind.i64 a0_3), (Value.int IntKind.i64 a0_4), (Value.int IntKind.i64 a0_5), (Value.int IntKind.i64 a0_6), (Value.int IntKind.i64 a0_7), (Value.bool a0_8)] 140 (0, 0))).ins n1 (Go.Obj.cells #[(Value.int IntKind.i64 a1_0), (Value.int IntKind.i64 a1_1), (Value.int IntKind.i64 a1_2), (Value.int IntKind.i64 a1_3), (Value.int IntKind.i64 a1_4), (Value.int IntKind.i64 a1_5), (Value.int IntKind.i64 a1_6), (Value.int IntKind.i64 a1_7), (Value.bool a1_8)] 140 (0, 0))))))) : C.theodoliteref01_Num__Times a0_0 a0_1 a0_2 a0_3 a0_4 a0_5 a0_6 a0_7 a0_8 a1_0 a1_1 a1_2 a1_3 a1_4 a1_5 a1_6 a1_7 a1_8 u K :=
  fn_sound' (C := { P := Tryz.prog, exp := [2, 3], wrap := false, eqT := eqT, ent := [], nxt := [] }) (args := [(Value.agg #[(Value.int IntKind.i64 a0_0), (Value.int IntKind.i64 a0_1), (Value.int IntKind.i64 a0_2), (Value.int IntKind.i64 a0_3), (Value.int IntKind.i64 a0_4), (Value.int IntKind.i64 a0_5), (Value.int IntKind.i64 a0_6), (Value.int IntKind.i64 a0_7), (Value.bool a0_8)]), (Value.agg #[(Value.int IntKind.i64 a1_0), (Value.int IntKind.i64 a1_1), (Value.int IntKind.i64 a1_2), (Value.int IntKind.i64 a1_3), (Value.int IntKind.i64 a1_4), (Value.int IntKind.i64 a1_5), (Value.int IntKind.i64 a1_6), (Value.int IntKind.i64 a1_7), (Value.bool a1_8)])]) (good _ _) Tryz.func157 (by kernel_rfl) [(7, ⟨[], [(1, [.int .i64, .int .i64, .int .i64, .int .i64, .int .i64, .int .i64, .int .i64, .int .i64, .bool])]⟩), (122, ⟨[(6, .int .i64)], [(1, [.int .i64, .int .i64, .int .i64, .int .i64, .int .i64, .int .i64, .int .i64, .int .i64, .bool])]⟩), (7826, ⟨[(7, .int .i64)], [(1, [.int .i64, .int .i64, .int .i64, .int .i64, .int .i64, .int .i64, .int .i64, .int .i64, .bool])]⟩), (250441, ⟨[(40, .bool)], []⟩)] (by kernel_rfl) (by kernel_rfl) (Eq.mp (by kernel_rfl) h)
theorem vc.theodoliteref01_Num__Wide (a0_0 : Int) (a0_1 : Int) (a0_2 : Int) (a0_3 : Int) (a0_4 : Int) (a0_5 : Int) (a0_6 : Int) (a0_7 : Int) (a0_8 : Bool) (u : H) (K : Int → Int → H → Prop) (h : ∀ n0 : Nat, ((u n0) = none) → ∃ I1 : (Int → (Int → (Int → (H → Prop)))), ∃ I2 : (Int → (Int → (Int → (H → Nat)))), (I1 3 0 0 (u.ins n0 (Go.Obj.cells #[(Value.int IntKind.i64 a0_0), (Value.int IntKind.i64 a0_1), (Value.int IntKind.i64 a0_2), (Value.int IntKind.i64 a0_3), (Value.int IntKind.i64 a0_4), (Value.int IntKind.i64 a0_5), (Value.int IntKind.i64 a0_6), (Value.int IntKind.i64 a0_7), (Value.bool a0_8)] 140 (0, 0)))) ∧ (∀ x3 : Int, ∀ x4 : Int, ∀ x5 : Int, ∀ u6 : H, (I1 x3 x4 x5 u6) → (((0 : Int) ≤ x3) → (2 ≤ 8) ∧ ((((0 : Int) ≤ x3) ∧ (x3 < (8 : Int))) ∧ (∃ x7 : Int, ((H.cell? u6 (Addr.add (Addr.mk n0 0 none) ((Int.toNat x3) * 1))) = (some (Value.int IntKind.i64 x7))) ∧ ((InR (4 + x3)) ∧ ((2 ≤ 8) ∧ ((((0 : Int) ≤ (4 + x3)) ∧ ((4 + x3) < (8 : Int))) ∧ (∃ x8 : Int, ((H.cell? u6 (Addr.add (Addr.mk n0 0 none) ((Int.toNat (4 + x3)) * 1))) = (some (Value.int IntKind.i64 x8))) ∧ ((InR (x3 - 1)) ∧ ((I1 (x3 - 1) (IntKind.wrap IntKind.u64 ((IntKind.wrap IntKind.u64 (65536 * x4)) + (IntKind.wrap IntKind.u64 x8))) (IntKind.wrap IntKind.u64 ((IntKind.wrap IntKind.u64 (65536 * x5)) + (IntKind.wrap IntKind.u64 x7))) u6) ∧ ((I2 (x3 - 1) (IntKind.wrap IntKind.u64 ((IntKind.wrap IntKind.u64 (65536 * x4)) + (IntKind.wrap IntKind.u64 x8))) (IntKind.wrap IntKind.u64 ((IntKind.wrap IntKind.u64 (65536 * x5)) + (IntKind.wrap IntKind.u64 x7))) u6) < (I2 x3 x4 x5 u6))))))))))) ∧ ((¬ ((0 : Int) ≤ x3)) → K x4 x5 u6))) : C.theodoliteref01_Num__Wide a0_0 a0_1 a0_2 a0_3 a0_4 a0_5 a0_6 a0_7 a0_8 u K :=
  fn_sound' (C := { P := Tryz.prog, exp := [1], wrap := false, eqT := eqT, ent := [], nxt := [] }) (args := [(Value.agg #[(Value.int IntKind.i64 a0_0), (Value.int IntKind.i64 a0_1), (Value.int IntKind.i64 a0_2), (Value.int IntKind.i64 a0_3), (Value.int IntKind.i64 a0_4), (Value.int IntKind.i64 a0_5), (Value.int IntKind.i64 a0_6), (Value.int IntKind.i64 a0_7), (Value.bool a0_8)])]) (good _ _) Tryz.func158 (by kernel_rfl) [(58, ⟨[(4, .int .i64)], [(1, [.int .u64, .int .u64])]⟩)] (by kernel_rfl) (by kernel_rfl) (Eq.mp (by kernel_rfl) h)
theorem vc.slices_insertionSortCmpFunc_int_ (a0 : Sl) (a1 : Int) (a2 : Int) (a3 : Value) (u : H) (K : H → Prop) (h : (InR (a1 + 1)) ∧ (∃ I0 : (Int → (H → Prop)), ∃ I1 : (Int → (H → Nat)), (I0 (a1 + 1) u) ∧ (∀ x2 : Int, ∀ u3 : H, (I0 x2 u3) → ((x2 < a2) → ∃ I4 : (Int → (H → Prop)), ∃ I5 : (Int → (H → Nat)), (I4 x2 u3) ∧ (∀ x6 : Int, ∀ u7 : H, (I4 x6 u7) → ∀ K8 : (H → Prop), (∀ u9 : H, ((InR (x6 - 1)) ∧ ((InR (x6 - 1)) ∧ (∃ r10 : Addr, (a0.a = (some r10)) ∧ ((((0 : Int) ≤ (x6 - 1)) ∧ ((x6 - 1) < (a0.n : Int))) ∧ (∃ r11 : Addr, (a0.a = (some r11)) ∧ ((((0 : Int) ≤ x6) ∧ (x6 < (a0.n : Int))) ∧ (∃ x12 : Int, ((H.cell? u9 (Addr.add r10 ((Int.toNat (x6 - 1)) * 1))) = (some (Value.int IntKind.i64 x12))) ∧ (∃ x13 : Int, ((H.cell? u9 (Addr.add r11 ((Int.toNat x6) * 1))) = (some (Value.int IntKind.i64 x13))) ∧ (∃ r14 : Addr, (a0.a = (some r14)) ∧ ((((0 : Int) ≤ x6) ∧ (x6 < (a0.n : Int))) ∧ (H.St u9 (Addr.add r14 ((Int.toNat x6) * 1)) [(Value.int IntKind.i64 x12)] (fun (u15 : H) => ∃ r16 : Addr, (a0.a = (some r16)) ∧ ((((0 : Int) ≤ (x6 - 1)) ∧ ((x6 - 1) < (a0.n : Int))) ∧ (H.St u15 (Addr.add r16 ((Int.toNat (x6 - 1)) * 1)) [(Value.int IntKind.i64 x13)] (fun (u17 : H) => (InR (x6 - 1)) ∧ ((I4 (x6 - 1) u17) ∧ ((I5 (x6 - 1) u17) < (I5 x6 u7)))))))))))))))))) → K8 u9) → ((a1 < x6) → ∃ r18 : Addr, (a0.a = (some r18)) ∧ ((((0 : Int) ≤ x6) ∧ (x6 < (a0.n : Int))) ∧ ((InR (x6 - 1)) ∧ (∃ r19 : Addr, (a0.a = (some r19)) ∧ ((((0 : Int) ≤ (x6 - 1)) ∧ ((x6 - 1) < (a0.n : Int))) ∧ (∃ x20 : Int, ((H.cell? u7 (Addr.add r18 ((Int.toNat x6) * 1))) = (some (Value.int IntKind.i64 x20))) ∧ (∃ x21 : Int, ((H.cell? u7 (Addr.add r19 ((Int.toNat (x6 - 1)) * 1))) = (some (Value.int IntKind.i64 x21))) ∧ (ClV Tryz.prog a3 #[(Value.int IntKind.i64 x20), (Value.int IntKind.i64 x21)] [(Sh.one (CT.int IntKind.i64))] u7 (fun (x22 : Int) (u23 : H) => ((x22 < 0) → K8 u23) ∧ ((¬ (x22 < 0)) → (InR (x2 + 1)) ∧ ((I0 (x2 + 1) u23) ∧ ((I1 (x2 + 1) u23) < (I1 x2 u3))))))))))))) ∧ ((¬ (a1 < x6)) → (InR (x2 + 1)) ∧ ((I0 (x2 + 1) u7) ∧ ((I1 (x2 + 1) u7) < (I1 x2 u3)))))) ∧ ((¬ (x2 < a2)) → K u3)))) : C.slices_insertionSortCmpFunc_int_ a0 a1 a2 a3 u K :=
  fn_sound' (C := { P := Tryz.prog, exp := [], wrap := false, eqT := eqT, ent := [], nxt := [] }) (args := [(Value.slice a0.a a0.n a0.c), (Value.int IntKind.i64 a1), (Value.int IntKind.i64 a2), a3]) (good _ _) Tryz.func159 (by kernel_rfl) [(6, ⟨[(8, .int .i64)], []⟩), (402, ⟨[(9, .int .i64)], []⟩), (804, ⟨[], []⟩)] (by kernel_rfl) (by kernel_rfl) (Eq.mp (by kernel_rfl) h)
theorem vc.slices_symMergeCmpFunc_int_ (a0 : Sl) (a1 : Int) (a2 : Int) (a3 : Int) (a4 : Value) (u : H) (K : H → Prop) (h : (InR (a2 - a1)) ∧ ((((a2 - a1) = 1) → ∃ I0 : (Int → (Int → (H → Prop))), ∃ I1 : (Int → (Int → (H → Nat))), (I0 a2 a3 u) ∧ (∀ x2 : Int, ∀ x3 : Int, ∀ u4 : H, (I0 x2 x3 u4) → ((x2 < x3) → (InR (x2 + x3)) ∧ (((0 : Int) ≤ 1) ∧ (∃ r5 : Addr, (a0.a = (some r5)) ∧ ((((0 : Int) ≤ (IntKind.wrap IntKind.i64 (Int.fdiv (IntKind.wrap IntKind.u64 (x2 + x3)) (2 ^ 1)))) ∧ ((IntKind.wrap IntKind.i64 (Int.fdiv (IntKind.wrap IntKind.u64 (x2 + x3)) (2 ^ 1))) < (a0.n : Int))) ∧ (∃ r6 : Addr, (a0.a = (some r6)) ∧ ((((0 : Int) ≤ a1) ∧ (a1 < (a0.n : Int))) ∧ (∃ x7 : Int, ((H.cell? u4 (Addr.add r5 ((Int.toNat (IntKind.wrap IntKind.i64 (Int.fdiv (IntKind.wrap IntKind.u64 (x2 + x3)) (2 ^ 1)))) * 1))) = (some (Value.int IntKind.i64 x7))) ∧ (∃ x8 : Int, ((H.cell? u4 (Addr.add r6 ((Int.toNat a1) * 1))) = (some (Value.int IntKind.i64 x8))) ∧ (ClV Tryz.prog a4 #[(Value.int IntKind.i64 x7), (Value.int IntKind.i64 x8)] [(Sh.one (CT.int IntKind.i64))] u4 (fun (x9 : Int) (u10 : H) => ((x9 < 0) → (InR ((IntKind.wrap IntKind.i64 (Int.fdiv (IntKind.wrap IntKind.u64 (x2 + x3)) (2 ^ 1))) + 1)) ∧ ((I0 ((IntKind.wrap IntKind.i64 (Int.fdiv (IntKind.wrap IntKind.u64 (x2 + x3)) (2 ^ 1))) + 1) x3 u10) ∧ ((I1 ((IntKind.wrap IntKind.i64 (Int.fdiv (IntKind.wrap IntKind.u64 (x2 + x3)) (2 ^ 1))) + 1) x3 u10) < (I1 x2 x3 u4)))) ∧ ((¬ (x9 < 0)) → (I0 x2 (IntKind.wrap IntKind.i64 (Int.fdiv (IntKind.wrap IntKind.u64 (x2 + x3)) (2 ^ 1))) u10) ∧ ((I1 x2 (IntKind.wrap IntKind.i64 (Int.fdiv (IntKind.wrap IntKind.u64 (x2 + x3)) (2 ^ 1))) u10) < (I1 x2 x3 u4))))))))))))) ∧ ((¬ (x2 < x3)) → ∃ I11 : (Int → (H → Prop)), ∃ I12 : (Int → (H → Nat)), (I11 a1 u4) ∧ (∀ x13 : Int, ∀ u14 : H, (I11 x13 u14) → (InR (x2 - 1)) ∧ (((x13 < (x2 - 1)) → (InR (x13 + 1)) ∧ ((InR (x13 + 1)) ∧ (∃ r15 : Addr, (a0.a = (some r15)) ∧ ((((0 : Int) ≤ (x13 + 1)) ∧ ((x13 + 1) < (a0.n : Int))) ∧ (∃ r16 : Addr, (a0.a = (some r16)) ∧ ((((0 : Int) ≤ x13) ∧ (x13 < (a0.n : Int))) ∧ (∃ x17 : Int, ((H.cell? u14 (Addr.add r15 ((Int.toNat (x13 + 1)) * 1))) = (some (Value.int IntKind.i64 x17))) ∧ (∃ x18 : Int, ((H.cell? u14 (Addr.add r16 ((Int.toNat x13) * 1))) = (some (Value.int IntKind.i64 x18))) ∧ (∃ r19 : Addr, (a0.a = (some r19)) ∧ ((((0 : Int) ≤ x13) ∧ (x13 < (a0.n : Int))) ∧ (H.St u14 (Addr.add r19 ((Int.toNat x13) * 1)) [(Value.int IntKind.i64 x17)] (fun (u20 : H) => ∃ r21 : Addr, (a0.a = (some r21)) ∧ ((((0 : Int) ≤ (x13 + 1)) ∧ ((x13 + 1) < (a0.n : Int))) ∧ (H.St u20 (Addr.add r21 ((Int.toNat (x13 + 1)) * 1)) [(Value.int IntKind.i64 x18)] (fun (u22 : H) => (InR (x13 + 1)) ∧ ((I11 (x13 + 1) u22) ∧ ((I12 (x13 + 1) u22) < (I12 x13 u14)))))))))))))))))) ∧ ((¬ (x13 < (x2 - 1))) → K u14)))))) ∧ ((¬ ((a2 - a1) = 1)) → (InR (a3 - a2)) ∧ ((((a3 - a2) = 1) → ∃ I23 : (Int → (Int → (H → Prop))), ∃ I24 : (Int → (Int → (H → Nat))), (I23 a1 a2 u) ∧ (∀ x25 : Int, ∀ x26 : Int, ∀ u27 : H, (I23 x25 x26 u27) → ((x25 < x26) → (InR (x25 + x26)) ∧ (((0 : Int) ≤ 1) ∧ (∃ r28 : Addr, (a0.a = (some r28)) ∧ ((((0 : Int) ≤ a2) ∧ (a2 < (a0.n : Int))) ∧ (∃ r29 : Addr, (a0.a = (some r29)) ∧ ((((0 : Int) ≤ (IntKind.wrap IntKind.i64 (Int.fdiv (IntKind.wrap IntKind.u64 (x25 + x26)) (2 ^ 1)))) ∧ ((IntKind.wrap IntKind.i64 (Int.fdiv (IntKind.wrap IntKind.u64 (x25 + x26)) (2 ^ 1))) < (a0.n : Int))) ∧ (∃ x30 : Int, ((H.cell? u27 (Addr.add r28 ((Int.toNat a2) * 1))) = (some (Value.int IntKind.i64 x30))) ∧ (∃ x31 : Int, ((H.cell? u27 (Addr.add r29 ((Int.toNat (IntKind.wrap IntKind.i64 (Int.fdiv (IntKind.wrap IntKind.u64 (x25 + x26)) (2 ^ 1)))) * 1))) = (some (Value.int IntKind.i64 x31))) ∧ (ClV Tryz.prog a4 #[(Value.int IntKind.i64 x30), (Value.int IntKind.i64 x31)] [(Sh.one (CT.int IntKind.i64))] u27 (fun (x32 : Int) (u33 : H) => ((¬ (x32 < 0)) → (InR ((IntKind.wrap IntKind.i64 (Int.fdiv (IntKind.wrap IntKind.u64 (x25 + x26)) (2 ^ 1))) + 1)) ∧ ((I23 ((IntKind.wrap IntKind.i64 (Int.fdiv (IntKind.wrap IntKind.u64 (x25 + x26)) (2 ^ 1))) + 1) x26 u33) ∧ ((I24 ((IntKind.wrap IntKind.i64 (Int.fdiv (IntKind.wrap IntKind.u64 (x25 + x26)) (2 ^ 1))) + 1) x26 u33) < (I24 x25 x26 u27)))) ∧ ((x32 < 0) → (I23 x25 (IntKind.wrap IntKind.i64 (Int.fdiv (IntKind.wrap IntKind.u64 (x25 + x26)) (2 ^ 1))) u33) ∧ ((I24 x25 (IntKind.wrap IntKind.i64 (Int.fdiv (IntKind.wrap IntKind.u64 (x25 + x26)) (2 ^ 1))) u33) < (I24 x25 x26 u27))))))))))))) ∧ ((¬ (x25 < x26)) → ∃ I34 : (Int → (H → Prop)), ∃ I35 : (Int → (H → Nat)), (I34 a2 u27) ∧ (∀ x36 : Int, ∀ u37 : H, (I34 x36 u37) → ((x25 < x36) → (InR (x36 - 1)) ∧ ((InR (x36 - 1)) ∧ (∃ r38 : Addr, (a0.a = (some r38)) ∧ ((((0 : Int) ≤ (x36 - 1)) ∧ ((x36 - 1) < (a0.n : Int))) ∧ (∃ r39 : Addr, (a0.a = (some r39)) ∧ ((((0 : Int) ≤ x36) ∧ (x36 < (a0.n : Int))) ∧ (∃ x40 : Int, ((H.cell? u37 (Addr.add r38 ((Int.toNat (x36 - 1)) * 1))) = (some (Value.int IntKind.i64 x40))) ∧ (∃ x41 : Int, ((H.cell? u37 (Addr.add r39 ((Int.toNat x36) * 1))) = (some (Value.int IntKind.i64 x41))) ∧ (∃ r42 : Addr, (a0.a = (some r42)) ∧ ((((0 : Int) ≤ x36) ∧ (x36 < (a0.n : Int))) ∧ (H.St u37 (Addr.add r42 ((Int.toNat x36) * 1)) [(Value.int IntKind.i64 x40)] (fun (u43 : H) => ∃ r44 : Addr, (a0.a = (some r44)) ∧ ((((0 : Int) ≤ (x36 - 1)) ∧ ((x36 - 1) < (a0.n : Int))) ∧ (H.St u43 (Addr.add r44 ((Int.toNat (x36 - 1)) * 1)) [(Value.int IntKind.i64 x41)] (fun (u45 : H) => (InR (x36 - 1)) ∧ ((I34 (x36 - 1) u45) ∧ ((I35 (x36 - 1) u45) < (I35 x36 u37)))))))))))))))))) ∧ ((¬ (x25 < x36)) → K u37))))) ∧ ((¬ ((a3 - a2) = 1)) → (InR (a1 + a3)) ∧ (((0 : Int) ≤ 1) ∧ ((InR ((IntKind.wrap IntKind.i64 (Int.fdiv (IntKind.wrap IntKind.u64 (a1 + a3)) (2 ^ 1))) + a2)) ∧ (∀ K46 : (Int → (Int → (H → Prop))), (∀ x47 : Int, ∀ x48 : Int, ∀ u49 : H, ((InR (((IntKind.wrap IntKind.i64 (Int.fdiv (IntKind.wrap IntKind.u64 (a1 + a3)) (2 ^ 1))) + a2) - 1)) ∧ (∃ I50 : (Int → (Int → (H → Prop))), ∃ I51 : (Int → (Int → (H → Nat))), (I50 x47 x48 u49) ∧ (∀ x52 : Int, ∀ x53 : Int, ∀ u54 : H, (I50 x52 x53 u54) → ((x52 < x53) → (InR (x52 + x53)) ∧ (((0 : Int) ≤ 1) ∧ ((InR ((((IntKind.wrap IntKind.i64 (Int.fdiv (IntKind.wrap IntKind.u64 (a1 + a3)) (2 ^ 1))) + a2) - 1) - (IntKind.wrap IntKind.i64 (Int.fdiv (IntKind.wrap IntKind.u64 (x52 + x53)) (2 ^ 1))))) ∧ (∃ r55 : Addr, (a0.a = (some r55)) ∧ ((((0 : Int) ≤ ((((IntKind.wrap IntKind.i64 (Int.fdiv (IntKind.wrap IntKind.u64 (a1 + a3)) (2 ^ 1))) + a2) - 1) - (IntKind.wrap IntKind.i64 (Int.fdiv (IntKind.wrap IntKind.u64 (x52 + x53)) (2 ^ 1))))) ∧ (((((IntKind.wrap IntKind.i64 (Int.fdiv (IntKind.wrap IntKind.u64 (a1 + a3)) (2 ^ 1))) + a2) - 1) - (IntKind.wrap IntKind.i64 (Int.fdiv (IntKind.wrap IntKind.u64 (x52 + x53)) (2 ^ 1)))) < (a0.n : Int))) ∧ (∃ r56 : Addr, (a0.a = (some r56)) ∧ ((((0 : Int) ≤ (IntKind.wrap IntKind.i64 (Int.fdiv (IntKind.wrap IntKind.u64 (x52 + x53)) (2 ^ 1)))) ∧ ((IntKind.wrap IntKind.i64 (Int.fdiv (IntKind.wrap IntKind.u64 (x52 + x53)) (2 ^ 1))) < (a0.n : Int))) ∧ (∃ x57 : Int, ((H.cell? u54 (Addr.add r55 ((Int.toNat ((((IntKind.wrap IntKind.i64 (Int.fdiv (IntKind.wrap IntKind.u64 (a1 + a3)) (2 ^ 1))) + a2) - 1) - (IntKind.wrap IntKind.i64 (Int.fdiv (IntKind.wrap IntKind.u64 (x52 + x53)) (2 ^ 1))))) * 1))) = (some (Value.int IntKind.i64 x57))) ∧ (∃ x58 : Int, ((H.cell? u54 (Addr.add r56 ((Int.toNat (IntKind.wrap IntKind.i64 (Int.fdiv (IntKind.wrap IntKind.u64 (x52 + x53)) (2 ^ 1)))) * 1))) = (some (Value.int IntKind.i64 x58))) ∧ (ClV Tryz.prog a4 #[(Value.int IntKind.i64 x57), (Value.int IntKind.i64 x58)] [(Sh.one (CT.int IntKind.i64))] u54 (fun (x59 : Int) (u60 : H) => ((¬ (x59 < 0)) → (InR ((IntKind.wrap IntKind.i64 (Int.fdiv (IntKind.wrap IntKind.u64 (x52 + x53)) (2 ^ 1))) + 1)) ∧ ((I50 ((IntKind.wrap IntKind.i64 (Int.fdiv (IntKind.wrap IntKind.u64 (x52 + x53)) (2 ^ 1))) + 1) x53 u60) ∧ ((I51 ((IntKind.wrap IntKind.i64 (Int.fdiv (IntKind.wrap IntKind.u64 (x52 + x53)) (2 ^ 1))) + 1) x53 u60) < (I51 x52 x53 u54)))) ∧ ((x59 < 0) → (I50 x52 (IntKind.wrap IntKind.i64 (Int.fdiv (IntKind.wrap IntKind.u64 (x52 + x53)) (2 ^ 1))) u60) ∧ ((I51 x52 (IntKind.wrap IntKind.i64 (Int.fdiv (IntKind.wrap IntKind.u64 (x52 + x53)) (2 ^ 1))) u60) < (I51 x52 x53 u54)))))))))))))) ∧ ((¬ (x52 < x53)) → (InR (((IntKind.wrap IntKind.i64 (Int.fdiv (IntKind.wrap IntKind.u64 (a1 + a3)) (2 ^ 1))) + a2) - x52)) ∧ (∀ K61 : (H → Prop), (∀ u62 : H, (∀ K63 : (H → Prop), (∀ u64 : H, ((((IntKind.wrap IntKind.i64 (Int.fdiv (IntKind.wrap IntKind.u64 (a1 + a3)) (2 ^ 1))) < (((IntKind.wrap IntKind.i64 (Int.fdiv (IntKind.wrap IntKind.u64 (a1 + a3)) (2 ^ 1))) + a2) - x52)) → (((((IntKind.wrap IntKind.i64 (Int.fdiv (IntKind.wrap IntKind.u64 (a1 + a3)) (2 ^ 1))) + a2) - x52) < a3) → C.slices_symMergeCmpFunc_int_ a0 (IntKind.wrap IntKind.i64 (Int.fdiv (IntKind.wrap IntKind.u64 (a1 + a3)) (2 ^ 1))) (((IntKind.wrap IntKind.i64 (Int.fdiv (IntKind.wrap IntKind.u64 (a1 + a3)) (2 ^ 1))) + a2) - x52) a3 a4 u64 (fun (u65 : H) => K u65)) ∧ ((¬ ((((IntKind.wrap IntKind.i64 (Int.fdiv (IntKind.wrap IntKind.u64 (a1 + a3)) (2 ^ 1))) + a2) - x52) < a3)) → K u64)) ∧ ((¬ ((IntKind.wrap IntKind.i64 (Int.fdiv (IntKind.wrap IntKind.u64 (a1 + a3)) (2 ^ 1))) < (((IntKind.wrap IntKind.i64 (Int.fdiv (IntKind.wrap IntKind.u64 (a1 + a3)) (2 ^ 1))) + a2) - x52))) → K u64)) → K63 u64) → ((a1 < x52) → ((x52 < (IntKind.wrap IntKind.i64 (Int.fdiv (IntKind.wrap IntKind.u64 (a1 + a3)) (2 ^ 1)))) → C.slices_symMergeCmpFunc_int_ a0 a1 x52 (IntKind.wrap IntKind.i64 (Int.fdiv (IntKind.wrap IntKind.u64 (a1 + a3)) (2 ^ 1))) a4 u62 (fun (u66 : H) => K63 u66)) ∧ ((¬ (x52 < (IntKind.wrap IntKind.i64 (Int.fdiv (IntKind.wrap IntKind.u64 (a1 + a3)) (2 ^ 1))))) → K63 u62)) ∧ ((¬ (a1 < x52)) → K63 u62)) → K61 u62) → ((x52 < a2) → ((a2 < (((IntKind.wrap IntKind.i64 (Int.fdiv (IntKind.wrap IntKind.u64 (a1 + a3)) (2 ^ 1))) + a2) - x52)) → C.slices_rotateCmpFunc_int_ a0 x52 a2 (((IntKind.wrap IntKind.i64 (Int.fdiv (IntKind.wrap IntKind.u64 (a1 + a3)) (2 ^ 1))) + a2) - x52) a4 u54 (fun (u67 : H) => K61 u67)) ∧ ((¬ (a2 < (((IntKind.wrap IntKind.i64 (Int.fdiv (IntKind.wrap IntKind.u64 (a1 + a3)) (2 ^ 1))) + a2) - x52))) → K61 u54)) ∧ ((¬ (x52 < a2)) → K61 u54)))))) → K46 x47 x48 u49) → (((IntKind.wrap IntKind.i64 (Int.fdiv (IntKind.wrap IntKind.u64 (a1 + a3)) (2 ^ 1))) < a2) → (InR (((IntKind.wrap IntKind.i64 (Int.fdiv (IntKind.wrap IntKind.u64 (a1 + a3)) (2 ^ 1))) + a2) - a3)) ∧ (K46 (((IntKind.wrap IntKind.i64 (Int.fdiv (IntKind.wrap IntKind.u64 (a1 + a3)) (2 ^ 1))) + a2) - a3) (IntKind.wrap IntKind.i64 (Int.fdiv (IntKind.wrap IntKind.u64 (a1 + a3)) (2 ^ 1))) u)) ∧ ((¬ ((IntKind.wrap IntKind.i64 (Int.fdiv (IntKind.wrap IntKind.u64 (a1 + a3)) (2 ^ 1))) < a2)) → K46 a1 a2 u))))))))) : C.slices_symMergeCmpFunc_int_ a0 a1 a2 a3 a4 u K :=
  fn_sound' (C := { P := Tryz.prog, exp := [], wrap := false, eqT := eqT, ent := [], nxt := [] }) (args := [(Value.slice a0.a a0.n a0.c), (Value.int IntKind.i64 a1), (Value.int IntKind.i64 a2), (Value.int IntKind.i64 a3), a4]) (good _ _) Tryz.func160 (by kernel_rfl) [(172, ⟨[(10, .int .i64), (11, .int .i64)], []⟩), (698, ⟨[(13, .int .i64)], []⟩), (428, ⟨[(14, .int .i64), (15, .int .i64)], []⟩), (1722, ⟨[(17, .int .i64)], []⟩), (63, ⟨[(20, .int .i64), (21, .int .i64)], []⟩), (1020, ⟨[(20, .int .i64), (21, .int .i64)], []⟩), (1023, ⟨[], []⟩), (2047, ⟨[], []⟩)] (by kernel_rfl) (by kernel_rfl) (Eq.mp (by kernel_rfl) h)
theorem vc.rand_Source__may (a0 : (Option Addr)) (a1 : Int) (a2 : Int) (a3 : Int) (u : H) (K : Int → H → Prop) (h : ((a0 = none) → K 3 u) ∧ ((¬ (a0 = none)) → ((a1 < a2) → K 1 u) ∧ ((¬ (a1 < a2)) → ((a3 < a1) → K 1 u) ∧ ((¬ (a3 < a1)) → K 0 u)))) : C.rand_Source__may a0 a1 a2 a3 u K :=
  fn_sound' (C := { P := Tryz.prog, exp := [], wrap := false, eqT := eqT, ent := [], nxt := [] }) (args := [(Value.pointer a0), (Value.int IntKind.i64 a1), (Value.int IntKind.i64 a2), (Value.int IntKind.i64 a3)]) (good _ _) Tryz.func161 (by kernel_rfl) [] (by kernel_rfl) (by kernel_rfl) (Eq.mp (by kernel_rfl) h)
theorem vc.rand_Source__changes (a0 : (Option Addr)) (a1 : Int) (u : H) (K : Value → H → Prop) (h : ∀ n0 : Nat, ((u n0) = none) → ∀ n1 : Nat, (((u.ins n0 (Go.Obj.cells #[(Value.pointer a0)] 186 (0, 0))) n1) = none) → K (Value.func (Fn.func 196) #[] #[(Value.pointer (some (Addr.mk n1 0 none))), (Value.pointer (some (Addr.mk n0 0 none)))]) ((u.ins n0 (Go.Obj.cells #[(Value.pointer a0)] 186 (0, 0))).ins n1 (Go.Obj.cells #[(Value.int IntKind.i64 a1)] 3 (0, 0)))) : C.rand_Source__changes a0 a1 u K :=
  fn_sound' (C := { P := Tryz.prog, exp := [2, 3], wrap := false, eqT := eqT, ent := [], nxt := [] }) (args := [(Value.pointer a0), (Value.int IntKind.i64 a1)]) (good _ _) Tryz.func162 (by kernel_rfl) [] (by kernel_rfl) (by kernel_rfl) (Eq.mp (by kernel_rfl) h)
theorem vc.theodoliteref03_With (a0 : Sl) (a1 : Int) (u : H) (K : Sl → H → Prop) (h : ∀ K0 : (Int → (H → Prop)), (∀ x1 : Int, ∀ u2 : H, (SemT Tryz.prog (Instr.sliceAt 41 (Value.slice a0.a a0.n a0.c) none (some (Value.int IntKind.i64 x1)) none) [(Sh.one CT.slice)] u2 (fun (s3 : Sl) (u4 : H) => SemT Tryz.prog (Builtin.append_ #[41, 41] 41 #[(Value.slice none 0 0), (Value.slice s3.a s3.n s3.c)]) [(Sh.one CT.slice)] u4 (fun (s5 : Sl) (u6 : H) => SemT Tryz.prog (Instr.buildSlice 41 1 #[(0, (Value.int IntKind.i64 a1))]) [(Sh.one CT.slice)] u6 (fun (s7 : Sl) (u8 : H) => SemT Tryz.prog (Builtin.append_ #[41, 41] 41 #[(Value.slice s5.a s5.n s5.c), (Value.slice s7.a s7.n s7.c)]) [(Sh.one CT.slice)] u8 (fun (s9 : Sl) (u10 : H) => SemT Tryz.prog (Instr.sliceAt 41 (Value.slice a0.a a0.n a0.c) (some (Value.int IntKind.i64 x1)) none none) [(Sh.one CT.slice)] u10 (fun (s11 : Sl) (u12 : H) => SemT Tryz.prog (Builtin.append_ #[41, 41] 41 #[(Value.slice s9.a s9.n s9.c), (Value.slice s11.a s11.n s11.c)]) [(Sh.one CT.slice)] u12 (fun (s13 : Sl) (u14 : H) => K (Sl.mk s13.a s13.n s13.c) u14))))))) → K0 x1 u2) → ∃ I15 : (Int → (H → Prop)), ∃ I16 : (Int → (H → Nat)), (I15 0 u) ∧ (∀ x17 : Int, ∀ u18 : H, (I15 x17 u18) → ((x17 < (a0.n : Int)) → ∃ r19 : Addr, (a0.a = (some r19)) ∧ ((((0 : Int) ≤ x17) ∧ (x17 < (a0.n : Int))) ∧ (∃ x20 : Int, ((H.cell? u18 (Addr.add r19 ((Int.toNat x17) * 1))) = (some (Value.int IntKind.i64 x20))) ∧ (((x20 < a1) → (InR (x17 + 1)) ∧ ((I15 (x17 + 1) u18) ∧ ((I16 (x17 + 1) u18) < (I16 x17 u18)))) ∧ ((¬ (x20 < a1)) → K0 x17 u18))))) ∧ ((¬ (x17 < (a0.n : Int))) → K0 x17 u18))) : C.theodoliteref03_With a0 a1 u K :=
  fn_sound' (C := { P := Tryz.prog, exp := [], wrap := false, eqT := eqT, ent := [], nxt := [] }) (args := [(Value.slice a0.a a0.n a0.c), (Value.int IntKind.i64 a1)]) (good _ _) Tryz.func163 (by kernel_rfl) [(7, ⟨[(5, .int .i64)], []⟩), (28, ⟨[(5, .int .i64)], []⟩)] (by kernel_rfl) (by kernel_rfl) (Eq.mp (by kernel_rfl) h)
theorem vc.theodoliteref05_region (a0 : Sl) (a1_0 : Int) (a1_1 : Sl) (a1_2 : Sl) (a1_3 : Int) (a1_4 : Int) (a1_5 : Sl) (a2 : Int) (u : H) (K : Bool → H → Prop) (h : ∀ K0 : (Bool → (H → Prop)), (∀ b1 : Bool, ∀ u2 : H, (∃ I3 : (Bool → (Int → (H → Prop))), ∃ I4 : (Bool → (Int → (H → Nat))), (I3 b1 0 u2) ∧ (∀ b5 : Bool, ∀ x6 : Int, ∀ u7 : H, (I3 b5 x6 u7) → ((x6 < (a1_5.n : Int)) → ∃ r8 : Addr, (a1_5.a = (some r8)) ∧ ((((0 : Int) ≤ x6) ∧ (x6 < (a1_5.n : Int))) ∧ (∃ x9 : Int, ((H.cell? u7 (Addr.add r8 ((Int.toNat x6) * 1))) = (some (Value.int IntKind.i64 x9))) ∧ (C.theodoliteref05_find a0 x9 u7 (fun (x10 : Int) (u11 : H) => ((x10 < 0) → K Bool.false u11) ∧ ((¬ (x10 < 0)) → ∃ r12 : Addr, (a0.a = (some r12)) ∧ ((((0 : Int) ≤ x10) ∧ (x10 < (a0.n : Int))) ∧ (∃ s13 : Sl, ((H.cell? u11 (Addr.add (Addr.add r12 ((Int.toNat x10) * 2)) 1)) = (some (Value.slice s13.a s13.n s13.c))) ∧ (C.theodoliteref03_In a1_0 a1_1 a1_2 a1_3 a1_4 a1_5 s13 u11 (fun (b14 : Bool) (u15 : H) => ((¬ (b14 = Bool.true)) → K Bool.false u15) ∧ ((b14 = Bool.true) → (InR (x6 + 1)) ∧ ((I3 b5 (x6 + 1) u15) ∧ ((I4 b5 (x6 + 1) u15) < (I4 b5 x6 u7)))))))))))))) ∧ ((¬ (x6 < (a1_5.n : Int))) → K Bool.true u7))) → K0 b1 u2) → C.theodoliteref03_CheckRegion a1_0 a1_1 a1_2 a1_3 a1_4 a1_5 a2 u (fun (x16 : Int) (u17 : H) => ((¬ (x16 = 0)) → K Bool.false u17) ∧ ((x16 = 0) → (((a1_5.n : Int) = 0) → K Bool.false u17) ∧ ((¬ ((a1_5.n : Int) = 0)) → K0 Bool.false u17)))) : C.theodoliteref05_region a0 a1_0 a1_1 a1_2 a1_3 a1_4 a1_5 a2 u K :=
  fn_sound' (C := { P := Tryz.prog, exp := [], wrap := false, eqT := eqT, ent := [], nxt := [] }) (args := [(Value.slice a0.a a0.n a0.c), (Value.agg #[(Value.int IntKind.i64 a1_0), (Value.slice a1_1.a a1_1.n a1_1.c), (Value.slice a1_2.a a1_2.n a1_2.c), (Value.int IntKind.u64 a1_3), (Value.int IntKind.u64 a1_4), (Value.slice a1_5.a a1_5.n a1_5.c)]), (Value.int IntKind.i64 a2)]) (good _ _) Tryz.func164 (by kernel_rfl) [(3, ⟨[(6, .bool)], []⟩), (58, ⟨[(6, .bool), (7, .int .i64)], []⟩)] (by kernel_rfl) (by kernel_rfl) (Eq.mp (by kernel_rfl) h)
theorem vc.theodoliteref05_First (a0 : Sl) (a1 : Int) (u : H) (K : Sl → H → Prop) (h : ((a1 < (a0.n : Int)) → SemT Tryz.prog (Instr.sliceAt 50 (Value.slice a0.a a0.n a0.c) none (some (Value.int IntKind.i64 a1)) none) [(Sh.one CT.slice)] u (fun (s0 : Sl) (u1 : H) => K (Sl.mk s0.a s0.n s0.c) u1)) ∧ ((¬ (a1 < (a0.n : Int))) → K (Sl.mk a0.a a0.n a0.c) u)) : C.theodoliteref05_First a0 a1 u K :=
  fn_sound' (C := { P := Tryz.prog, exp := [], wrap := false, eqT := eqT, ent := [], nxt := [] }) (args := [(Value.slice a0.a a0.n a0.c), (Value.int IntKind.i64 a1)]) (good _ _) Tryz.func165 (by kernel_rfl) [] (by kernel_rfl) (by kernel_rfl) (Eq.mp (by kernel_rfl) h)
theorem vc.theodoliteref05_Hits (a0 : Sl) (a1 : Sl) (u : H) (K : Sl → H → Prop) (h : ∃ I0 : (Sl → (Int → (H → Prop))), ∃ I1 : (Sl → (Int → (H → Nat))), (I0 (Sl.mk none 0 0) 0 u) ∧ (∀ s2 : Sl, ∀ x3 : Int, ∀ u4 : H, (I0 (Sl.mk s2.a s2.n s2.c) x3 u4) → ((x3 < (a0.n : Int)) → ∀ K5 : (Addr → (H → Prop)), (∀ r6 : Addr, ∀ u7 : H, (∃ x8 : Int, ((H.cell? u7 r6) = (some (Value.int IntKind.i64 x8))) ∧ (∃ x9 : Int, ((H.cell? u7 (Addr.add r6 1)) = (some (Value.int IntKind.u64 x9))) ∧ (∃ x10 : Int, ((H.cell? u7 (Addr.add r6 2)) = (some (Value.int IntKind.u64 x10))) ∧ (SemT Tryz.prog (Instr.buildSlice 50 1 #[(0, (Value.agg #[(Value.int IntKind.i64 x8), (Value.int IntKind.u64 x9), (Value.int IntKind.u64 x10)]))]) [(Sh.one CT.slice)] u7 (fun (s11 : Sl) (u12 : H) => SemT Tryz.prog (Builtin.append_ #[50, 50] 50 #[(Value.slice s2.a s2.n s2.c), (Value.slice s11.a s11.n s11.c)]) [(Sh.one CT.slice)] u12 (fun (s13 : Sl) (u14 : H) => ∃ I15 : (Int → (H → Prop)), ∃ I16 : (Int → (H → Nat)), (I15 (s2.n : Int) u14) ∧ (∀ x17 : Int, ∀ u18 : H, (I15 x17 u18) → ∀ K19 : (H → Prop), (∀ u20 : H, ((InR (x17 - 1)) ∧ (∃ r21 : Addr, (s13.a = (some r21)) ∧ ((((0 : Int) ≤ (x17 - 1)) ∧ ((x17 - 1) < (s13.n : Int))) ∧ (∃ x22 : Int, ((H.cell? u20 (Addr.add r21 ((Int.toNat (x17 - 1)) * 3))) = (some (Value.int IntKind.i64 x22))) ∧ (∃ x23 : Int, ((H.cell? u20 (Addr.add (Addr.add r21 ((Int.toNat (x17 - 1)) * 3)) 1)) = (some (Value.int IntKind.u64 x23))) ∧ (∃ x24 : Int, ((H.cell? u20 (Addr.add (Addr.add r21 ((Int.toNat (x17 - 1)) * 3)) 2)) = (some (Value.int IntKind.u64 x24))) ∧ (∃ r25 : Addr, (s13.a = (some r25)) ∧ ((((0 : Int) ≤ x17) ∧ (x17 < (s13.n : Int))) ∧ (H.St u20 (Addr.add r25 ((Int.toNat x17) * 3)) [(Value.int IntKind.i64 x22), (Value.int IntKind.u64 x23), (Value.int IntKind.u64 x24)] (fun (u26 : H) => (InR (x17 - 1)) ∧ ((I15 (x17 - 1) u26) ∧ ((I16 (x17 - 1) u26) < (I16 x17 u18))))))))))))) → K19 u20) → (((0 : Int) < x17) → (InR (x17 - 1)) ∧ (∃ r27 : Addr, (s13.a = (some r27)) ∧ ((((0 : Int) ≤ (x17 - 1)) ∧ ((x17 - 1) < (s13.n : Int))) ∧ (∃ x28 : Int, ((H.cell? u18 r6) = (some (Value.int IntKind.i64 x28))) ∧ (∃ x29 : Int, ((H.cell? u18 (Addr.add r6 1)) = (some (Value.int IntKind.u64 x29))) ∧ (∃ x30 : Int, ((H.cell? u18 (Addr.add r6 2)) = (some (Value.int IntKind.u64 x30))) ∧ (∃ x31 : Int, ((H.cell? u18 (Addr.add r27 ((Int.toNat (x17 - 1)) * 3))) = (some (Value.int IntKind.i64 x31))) ∧ (∃ x32 : Int, ((H.cell? u18 (Addr.add (Addr.add r27 ((Int.toNat (x17 - 1)) * 3)) 1)) = (some (Value.int IntKind.u64 x32))) ∧ (∃ x33 : Int, ((H.cell? u18 (Addr.add (Addr.add r27 ((Int.toNat (x17 - 1)) * 3)) 2)) = (some (Value.int IntKind.u64 x33))) ∧ (C.theodoliteref05_Before x28 x29 x30 x31 x32 x33 u18 (fun (b34 : Bool) (u35 : H) => ((b34 = Bool.true) → K19 u35) ∧ ((b34 = Bool.false) → ∃ x36 : Int, ((H.cell? u35 r6) = (some (Value.int IntKind.i64 x36))) ∧ (∃ x37 : Int, ((H.cell? u35 (Addr.add r6 1)) = (some (Value.int IntKind.u64 x37))) ∧ (∃ x38 : Int, ((H.cell? u35 (Addr.add r6 2)) = (some (Value.int IntKind.u64 x38))) ∧ (∃ r39 : Addr, (s13.a = (some r39)) ∧ ((((0 : Int) ≤ x17) ∧ (x17 < (s13.n : Int))) ∧ (H.St u35 (Addr.add r39 ((Int.toNat x17) * 3)) [(Value.int IntKind.i64 x36), (Value.int IntKind.u64 x37), (Value.int IntKind.u64 x38)] (fun (u40 : H) => (InR (x3 + 1)) ∧ ((I0 (Sl.mk s13.a s13.n s13.c) (x3 + 1) u40) ∧ ((I1 (Sl.mk s13.a s13.n s13.c) (x3 + 1) u40) < (I1 (Sl.mk s2.a s2.n s2.c) x3 u4))))))))))))))))))))) ∧ ((¬ ((0 : Int) < x17)) → ∃ x41 : Int, ((H.cell? u18 r6) = (some (Value.int IntKind.i64 x41))) ∧ (∃ x42 : Int, ((H.cell? u18 (Addr.add r6 1)) = (some (Value.int IntKind.u64 x42))) ∧ (∃ x43 : Int, ((H.cell? u18 (Addr.add r6 2)) = (some (Value.int IntKind.u64 x43))) ∧ (∃ r44 : Addr, (s13.a = (some r44)) ∧ ((((0 : Int) ≤ x17) ∧ (x17 < (s13.n : Int))) ∧ (H.St u18 (Addr.add r44 ((Int.toNat x17) * 3)) [(Value.int IntKind.i64 x41), (Value.int IntKind.u64 x42), (Value.int IntKind.u64 x43)] (fun (u45 : H) => (InR (x3 + 1)) ∧ ((I0 (Sl.mk s13.a s13.n s13.c) (x3 + 1) u45) ∧ ((I1 (Sl.mk s13.a s13.n s13.c) (x3 + 1) u45) < (I1 (Sl.mk s2.a s2.n s2.c) x3 u4))))))))))))))))) → K5 r6 u7) → ∃ r46 : Addr, (a0.a = (some r46)) ∧ ((((0 : Int) ≤ x3) ∧ (x3 < (a0.n : Int))) ∧ (∃ r47 : Addr, (a0.a = (some r47)) ∧ ((((0 : Int) ≤ x3) ∧ (x3 < (a0.n : Int))) ∧ (∃ x48 : Int, ((H.cell? u4 (Addr.add r46 ((Int.toNat x3) * 2))) = (some (Value.int IntKind.i64 x48))) ∧ (∃ s49 : Sl, ((H.cell? u4 (Addr.add (Addr.add r47 ((Int.toNat x3) * 2)) 1)) = (some (Value.slice s49.a s49.n s49.c))) ∧ ((C.theodoliteref03_Far s49 a1 u4 (fun (x50 : Int) (x51 : Int) (u52 : H) => (H.le u4 u52) ∧ (∀ n53 : Nat, ((u52 n53) = none) → (H.le u4 (u52.ins n53 (Go.Obj.cells #[(Value.int IntKind.i64 0), (Value.int IntKind.u64 0), (Value.int IntKind.u64 0)] 66 (0, 0)))) ∧ (H.St (u52.ins n53 (Go.Obj.cells #[(Value.int IntKind.i64 0), (Value.int IntKind.u64 0), (Value.int IntKind.u64 0)] 66 (0, 0))) (Addr.mk n53 0 none) [(Value.int IntKind.i64 x48), (Value.int IntKind.u64 x50), (Value.int IntKind.u64 x51)] (fun (u54 : H) => K5 (Addr.mk n53 0 none) u54))))) ∧ (∀ n55 : Nat, ((u4 n55) = none) → (H.le u4 (u4.ins n55 (Go.Obj.cells #[(Value.int IntKind.i64 0), (Value.int IntKind.u64 0), (Value.int IntKind.u64 0)] 66 (0, 0)))) ∧ (C.theodoliteref03_Far s49 a1 (u4.ins n55 (Go.Obj.cells #[(Value.int IntKind.i64 0), (Value.int IntKind.u64 0), (Value.int IntKind.u64 0)] 66 (0, 0))) (fun (x56 : Int) (x57 : Int) (u58 : H) => (H.le u4 u58) ∧ (H.St u58 (Addr.mk n55 0 none) [(Value.int IntKind.i64 x48), (Value.int IntKind.u64 x56), (Value.int IntKind.u64 x57)] (fun (u59 : H) => K5 (Addr.mk n55 0 none) u59)))))))))))) ∧ ((¬ (x3 < (a0.n : Int))) → K (Sl.mk s2.a s2.n s2.c) u4))) : C.theodoliteref05_Hits a0 a1 u K :=
  fn_sound' (C := { P := Tryz.prog, exp := [7], wrap := false, eqT := eqT, ent := [], nxt := [] }) (args := [(Value.slice a0.a a0.n a0.c), (Value.slice a1.a a1.n a1.c)]) (good _ _) Tryz.func166 (by kernel_rfl) [(58, ⟨[(5, .slice), (6, .int .i64)], []⟩), (932, ⟨[(7, .addr)], []⟩), (29852, ⟨[(8, .int .i64)], []⟩), (59704, ⟨[], []⟩)] (by kernel_rfl) (by kernel_rfl) (Eq.mp (by kernel_rfl) h)
theorem vc.theodoliteref03_Ids (a0 : Sl) (u : H) (K : Sl → H → Prop) (h : ∃ I0 : (Sl → (Int → (H → Prop))), ∃ I1 : (Sl → (Int → (H → Nat))), (I0 (Sl.mk none 0 0) 0 u) ∧ (∀ s2 : Sl, ∀ x3 : Int, ∀ u4 : H, (I0 (Sl.mk s2.a s2.n s2.c) x3 u4) → ((x3 < (a0.n : Int)) → ∃ r5 : Addr, (a0.a = (some r5)) ∧ ((((0 : Int) ≤ x3) ∧ (x3 < (a0.n : Int))) ∧ (∃ x6 : Int, ((H.cell? u4 (Addr.add r5 ((Int.toNat x3) * 2))) = (some (Value.int IntKind.i64 x6))) ∧ (C.theodoliteref03_With s2 x6 u4 (fun (s7 : Sl) (u8 : H) => (InR (x3 + 1)) ∧ ((I0 (Sl.mk s7.a s7.n s7.c) (x3 + 1) u8) ∧ ((I1 (Sl.mk s7.a s7.n s7.c) (x3 + 1) u8) < (I1 (Sl.mk s2.a s2.n s2.c) x3 u4)))))))) ∧ ((¬ (x3 < (a0.n : Int))) → K (Sl.mk s2.a s2.n s2.c) u4))) : C.theodoliteref03_Ids a0 u K :=
  fn_sound' (C := { P := Tryz.prog, exp := [], wrap := false, eqT := eqT, ent := [], nxt := [] }) (args := [(Value.slice a0.a a0.n a0.c)]) (good _ _) Tryz.func167 (by kernel_rfl) [(58, ⟨[(3, .slice), (4, .int .i64)], []⟩)] (by kernel_rfl) (by kernel_rfl) (Eq.mp (by kernel_rfl) h)
theorem vc.wide_Add (a0_0 : Int) (a0_1 : Int) (a1_0 : Int) (a1_1 : Int) (u : H) (K : Int → Int → Int → H → Prop) (h : SemT Tryz.prog (callX 201 #[(Value.int IntKind.u64 a0_1), (Value.int IntKind.u64 a1_1), (Value.int IntKind.u64 0)]) [(Sh.one (CT.int IntKind.u64)), (Sh.one (CT.int IntKind.u64))] u (fun (x0 : Int) (x1 : Int) (u2 : H) => SemT Tryz.prog (callX 201 #[(Value.int IntKind.u64 a0_0), (Value.int IntKind.u64 a1_0), (Value.int IntKind.u64 x1)]) [(Sh.one (CT.int IntKind.u64)), (Sh.one (CT.int IntKind.u64))] u2 (fun (x3 : Int) (x4 : Int) (u5 : H) => (((0 : Int) < x4) → K 0 0 10 u5) ∧ ((¬ ((0 : Int) < x4)) → K x3 x0 0 u5)))) : C.wide_Add a0_0 a0_1 a1_0 a1_1 u K :=
  fn_sound' (C := { P := Tryz.prog, exp := [], wrap := false, eqT := eqT, ent := [], nxt := [] }) (args := [(Value.agg #[(Value.int IntKind.u64 a0_0), (Value.int IntKind.u64 a0_1)]), (Value.agg #[(Value.int IntKind.u64 a1_0), (Value.int IntKind.u64 a1_1)])]) (good _ _) Tryz.func168 (by kernel_rfl) [] (by kernel_rfl) (by kernel_rfl) (Eq.mp (by kernel_rfl) h)
theorem vc.vec_CheckRegion (a0_0 : Int) (a0_1 : Sl) (a0_2 : Sl) (a0_3 : Int) (a0_4 : Int) (a0_5 : Sl) (a1 : Int) (u : H) (K : Int → H → Prop) (h : C.vec_dim a1 u (fun (b0 : Bool) (u1 : H) => ((¬ (b0 = Bool.true)) → K 30 u1) ∧ ((b0 = Bool.true) → ∃ I2 : (Int → (Int → (Int → (H → Prop)))), ∃ I3 : (Int → (Int → (Int → (H → Nat)))), (I2 0 0 0 u1) ∧ (∀ x4 : Int, ∀ x5 : Int, ∀ x6 : Int, ∀ u7 : H, (I2 x4 x5 x6 u7) → ((x6 < (a0_5.n : Int)) → ∃ r8 : Addr, (a0_5.a = (some r8)) ∧ ((((0 : Int) ≤ x6) ∧ (x6 < (a0_5.n : Int))) ∧ (∃ x9 : Int, ((H.cell? u7 (Addr.add r8 ((Int.toNat x6) * 1))) = (some (Value.int IntKind.i64 x9))) ∧ (((x9 ≤ x5) → K 32 u7) ∧ ((¬ (x9 ≤ x5)) → (((1000000000 : Int) < x9) → K 32 u7) ∧ ((¬ ((1000000000 : Int) < x9)) → (InR (x6 + 1)) ∧ ((I2 x4 x9 (x6 + 1) u7) ∧ ((I3 x4 x9 (x6 + 1) u7) < (I3 x4 x5 x6 u7))))))))) ∧ ((¬ (x6 < (a0_5.n : Int))) → ∀ K10 : (Int → (H → Prop)), (∀ x11 : Int, ∀ u12 : H, (SemT Tryz.prog (Instr.buildSlice 68 2 #[(0, (Value.slice a0_1.a a0_1.n a0_1.c)), (1, (Value.slice a0_2.a a0_2.n a0_2.c))]) [(Sh.one CT.slice)] u12 (fun (s13 : Sl) (u14 : H) => ∃ I15 : (Int → (Int → (H → Prop))), ∃ I16 : (Int → (Int → (H → Nat))), (I15 x11 0 u14) ∧ (∀ x17 : Int, ∀ x18 : Int, ∀ u19 : H, (I15 x17 x18 u19) → ((x18 < (s13.n : Int)) → ∃ r20 : Addr, (s13.a = (some r20)) ∧ ((((0 : Int) ≤ x18) ∧ (x18 < (s13.n : Int))) ∧ (∃ s21 : Sl, ((H.cell? u19 (Addr.add r20 ((Int.toNat x18) * 1))) = (some (Value.slice s21.a s21.n s21.c))) ∧ (C.vec_Check s21 a1 u19 (fun (x22 : Int) (u23 : H) => ((¬ (x22 = 0)) → K x22 u23) ∧ ((x22 = 0) → (InR (x18 + 1)) ∧ ((I15 x17 (x18 + 1) u23) ∧ ((I16 x17 (x18 + 1) u23) < (I16 x17 x18 u19))))))))) ∧ ((¬ (x18 < (s13.n : Int))) → ∃ I24 : (Int → (Int → (H → Prop))), ∃ I25 : (Int → (Int → (H → Nat))), (I24 x17 0 u19) ∧ (∀ x26 : Int, ∀ x27 : Int, ∀ u28 : H, (I24 x26 x27 u28) → ((x27 < (a0_1.n : Int)) → ∃ r29 : Addr, (a0_1.a = (some r29)) ∧ ((((0 : Int) ≤ x27) ∧ (x27 < (a0_1.n : Int))) ∧ (∃ x30 : Int, ((H.cell? u28 (Addr.add r29 ((Int.toNat x27) * 1))) = (some (Value.int IntKind.i64 x30))) ∧ (∃ r31 : Addr, (a0_2.a = (some r31)) ∧ ((((0 : Int) ≤ x27) ∧ (x27 < (a0_2.n : Int))) ∧ (∃ x32 : Int, ((H.cell? u28 (Addr.add r31 ((Int.toNat x27) * 1))) = (some (Value.int IntKind.i64 x32))) ∧ (((x32 < x30) → K 32 u28) ∧ ((¬ (x32 < x30)) → (InR (x27 + 1)) ∧ ((I24 x26 (x27 + 1) u28) ∧ ((I25 x26 (x27 + 1) u28) < (I25 x26 x27 u28))))))))))) ∧ ((¬ (x27 < (a0_1.n : Int))) → K 0 u28)))))) → K10 x11 u12) → ∀ K33 : (Bool → (H → Prop)), (∀ b34 : Bool, ∀ u35 : H, (((b34 = Bool.true) → K 0 u35) ∧ ((b34 = Bool.false) → ∀ K36 : (Bool → (H → Prop)), (∀ b37 : Bool, ∀ u38 : H, (((b37 = Bool.true) → C.vec_Check a0_1 a1 u38 (fun (x39 : Int) (u40 : H) => K x39 u40)) ∧ ((b37 = Bool.false) → ((¬ (a0_0 = 2)) → K 32 u38) ∧ ((a0_0 = 2) → ((¬ ((a0_3 = 0) ∧ (a0_4 = 0))) → K 32 u38) ∧ (((a0_3 = 0) ∧ (a0_4 = 0)) → K10 x4 u38)))) → K36 b37 u38) → ((a0_0 = 3) → K36 (@decide ((a0_2.n : Int) = 0) (@inferInstance (@Decidable (@Eq @Int (@Nat.cast @Int @instNatCastInt (@Sl.n a0_2)) (@OfNat.ofNat @Int 0 (@instOfNat 0)))) (@Int.instDecidableEq (@Nat.cast @Int @instNatCastInt (@Sl.n a0_2)) (@OfNat.ofNat @Int 0 (@instOfNat 0))))) u35) ∧ ((¬ (a0_0 = 3)) → K36 Bool.false u35))) → K33 b34 u35) → ((a0_0 = 1) → (InR ((a0_1.n : Int) + (a0_2.n : Int))) ∧ (((((a0_1.n : Int) + (a0_2.n : Int)) = 0) → K33 (@decide ((a0_3 = 0) ∧ (a0_4 = 0)) (@PD.d (@PD.mk (@And (@PD.p (@PD.mk (@Eq @Int a0_3 (@Int.ofNat 0)) (@inferInstance (@Decidable (@Eq @Int a0_3 (@Int.ofNat 0))) (@Int.instDecidableEq a0_3 (@Int.ofNat 0))))) (@PD.p (@PD.mk (@Eq @Int a0_4 (@Int.ofNat 0)) (@inferInstance (@Decidable (@Eq @Int a0_4 (@Int.ofNat 0))) (@Int.instDecidableEq a0_4 (@Int.ofNat 0)))))) (@instDecidableAnd (@PD.p (@PD.mk (@Eq @Int a0_3 (@Int.ofNat 0)) (@inferInstance (@Decidable (@Eq @Int a0_3 (@Int.ofNat 0))) (@Int.instDecidableEq a0_3 (@Int.ofNat 0))))) (@PD.p (@PD.mk (@Eq @Int a0_4 (@Int.ofNat 0)) (@inferInstance (@Decidable (@Eq @Int a0_4 (@Int.ofNat 0))) (@Int.instDecidableEq a0_4 (@Int.ofNat 0))))) (@PD.d (@PD.mk (@Eq @Int a0_3 (@Int.ofNat 0)) (@inferInstance (@Decidable (@Eq @Int a0_3 (@Int.ofNat 0))) (@Int.instDecidableEq a0_3 (@Int.ofNat 0))))) (@PD.d (@PD.mk (@Eq @Int a0_4 (@Int.ofNat 0)) (@inferInstance (@Decidable (@Eq @Int a0_4 (@Int.ofNat 0))) (@Int.instDecidableEq a0_4 (@Int.ofNat 0))))))))) u7) ∧ ((¬ (((a0_1.n : Int) + (a0_2.n : Int)) = 0)) → K33 Bool.false u7))) ∧ ((¬ (a0_0 = 1)) → K33 Bool.false u7)))))) : C.vec_CheckRegion a0_0 a0_1 a0_2 a0_3 a0_4 a0_5 a1 u K :=
  fn_sound' (C := { P := Tryz.prog, exp := [], wrap := false, eqT := eqT, ent := [], nxt := [] }) (args := [(Value.agg #[(Value.int IntKind.i64 a0_0), (Value.slice a0_1.a a0_1.n a0_1.c), (Value.slice a0_2.a a0_2.n a0_2.c), (Value.int IntKind.u64 a0_3), (Value.int IntKind.u64 a0_4), (Value.slice a0_5.a a0_5.n a0_5.c)]), (Value.int IntKind.i64 a1)]) (good _ _) Tryz.func169 (by kernel_rfl) [(122, ⟨[(4, .int .i64), (5, .int .i64), (19, .int .i64)], []⟩), (63, ⟨[(4, .int .i64)], []⟩), (1018, ⟨[(4, .int .i64), (81, .int .i64)], []⟩), (2042, ⟨[(4, .int .i64), (95, .int .i64)], []⟩), (252, ⟨[(36, .bool)], []⟩), (1011, ⟨[(53, .bool)], []⟩)] (by kernel_rfl) (by kernel_rfl) (Eq.mp (by kernel_rfl) h)
theorem vc.bits_Mul64 (a0 : Int) (a1 : Int) (u : H) (K : Int → Int → H → Prop) (h : ((0 : Int) ≤ 32) ∧ (((0 : Int) ≤ 32) ∧ (((0 : Int) ≤ 32) ∧ (((0 : Int) ≤ 32) ∧ (((0 : Int) ≤ 32) ∧ (K (IntKind.wrap IntKind.u64 ((IntKind.wrap IntKind.u64 ((IntKind.wrap IntKind.u64 ((Int.fdiv a0 (2 ^ 32)) * (Int.fdiv a1 (2 ^ 32)))) + (Int.fdiv (IntKind.wrap IntKind.u64 ((IntKind.wrap IntKind.u64 ((Int.fdiv a0 (2 ^ 32)) * (Go.bits BinOp.and IntKind.u64 a1 4294967295))) + (Int.fdiv (IntKind.wrap IntKind.u64 ((Go.bits BinOp.and IntKind.u64 a0 4294967295) * (Go.bits BinOp.and IntKind.u64 a1 4294967295))) (2 ^ 32)))) (2 ^ 32)))) + (Int.fdiv (IntKind.wrap IntKind.u64 ((Go.bits BinOp.and IntKind.u64 (IntKind.wrap IntKind.u64 ((IntKind.wrap IntKind.u64 ((Int.fdiv a0 (2 ^ 32)) * (Go.bits BinOp.and IntKind.u64 a1 4294967295))) + (Int.fdiv (IntKind.wrap IntKind.u64 ((Go.bits BinOp.and IntKind.u64 a0 4294967295) * (Go.bits BinOp.and IntKind.u64 a1 4294967295))) (2 ^ 32)))) 4294967295) + (IntKind.wrap IntKind.u64 ((Go.bits BinOp.and IntKind.u64 a0 4294967295) * (Int.fdiv a1 (2 ^ 32)))))) (2 ^ 32)))) (IntKind.wrap IntKind.u64 (a0 * a1)) u)))))) : C.bits_Mul64 a0 a1 u K :=
  fn_sound' (C := { P := Tryz.prog, exp := [], wrap := false, eqT := eqT, ent := [], nxt := [] }) (args := [(Value.int IntKind.u64 a0), (Value.int IntKind.u64 a1)]) (good _ _) Tryz.func170 (by kernel_rfl) [] (by kernel_rfl) (by kernel_rfl) (Eq.mp (by kernel_rfl) h)
theorem vc.theodoliteref04_Source__Next (a0 : (Option Addr)) (u : H) (K : Int → H → Prop) (h : ∃ r0 : Addr, (a0 = (some r0)) ∧ (∃ x1 : Int, ((H.cell? u r0) = (some (Value.int IntKind.u64 x1))) ∧ (∃ r2 : Addr, (a0 = (some r2)) ∧ (H.St u r2 [(Value.int IntKind.u64 (IntKind.wrap IntKind.u64 (x1 + 11400714819323198485)))] (fun (u3 : H) => ∃ r4 : Addr, (a0 = (some r4)) ∧ (∃ x5 : Int, ((H.cell? u3 r4) = (some (Value.int IntKind.u64 x5))) ∧ (((0 : Int) ≤ 30) ∧ (((0 : Int) ≤ 27) ∧ (((0 : Int) ≤ 31) ∧ (K (Go.bits BinOp.xor IntKind.u64 (IntKind.wrap IntKind.u64 ((Go.bits BinOp.xor IntKind.u64 (IntKind.wrap IntKind.u64 ((Go.bits BinOp.xor IntKind.u64 x5 (Int.fdiv x5 (2 ^ 30))) * 13787848793156543929)) (Int.fdiv (IntKind.wrap IntKind.u64 ((Go.bits BinOp.xor IntKind.u64 x5 (Int.fdiv x5 (2 ^ 30))) * 13787848793156543929)) (2 ^ 27))) * 10723151780598845931)) (Int.fdiv (IntKind.wrap IntKind.u64 ((Go.bits BinOp.xor IntKind.u64 (IntKind.wrap IntKind.u64 ((Go.bits BinOp.xor IntKind.u64 x5 (Int.fdiv x5 (2 ^ 30))) * 13787848793156543929)) (Int.fdiv (IntKind.wrap IntKind.u64 ((Go.bits BinOp.xor IntKind.u64 x5 (Int.fdiv x5 (2 ^ 30))) * 13787848793156543929)) (2 ^ 27))) * 10723151780598845931)) (2 ^ 31))) u3)))))))))) : C.theodoliteref04_Source__Next a0 u K :=
  fn_sound' (C := { P := Tryz.prog, exp := [], wrap := false, eqT := eqT, ent := [], nxt := [] }) (args := [(Value.pointer a0)]) (good _ _) Tryz.func179 (by kernel_rfl) [] (by kernel_rfl) (by kernel_rfl) (Eq.mp (by kernel_rfl) h)
theorem vc.cmp_isNaN_int_ (a0 : Int) (u : H) (K : Bool → H → Prop) (h : K (Bool.not (@decide (a0 = a0) (@inferInstance (@Decidable (@Eq @Int a0 a0)) (@Int.instDecidableEq a0 a0)))) u) : C.cmp_isNaN_int_ a0 u K :=
  fn_sound' (C := { P := Tryz.prog, exp := [], wrap := false, eqT := eqT, ent := [], nxt := [] }) (args := [(Value.int IntKind.i64 a0)]) (good _ _) Tryz.func185 (by kernel_rfl) [] (by kernel_rfl) (by kernel_rfl) (Eq.mp (by kernel_rfl) h)
theorem vc.theodoliteref01_Num__plus (a0_0 : Int) (a0_1 : Int) (a0_2 : Int) (a0_3 : Int) (a0_4 : Int) (a0_5 : Int) (a0_6 : Int) (a0_7 : Int) (a0_8 : Bool) (a1 : Int) (a2 : Int) (u : H) (K : Int → Int → Int → Int → Int → Int → Int → Int → Bool → H → Prop) (h : ∀ n0 : Nat, ((u n0) = none) → ∃ I1 : (Int → (Int → (Int → (Int → (Int → (Int → (Int → (Int → (Int → (Int → (Bool → (H → Prop)))))))))))), ∃ I2 : (Int → (Int → (Int → (Int → (Int → (Int → (Int → (Int → (Int → (Int → (Bool → (H → Nat)))))))))))), (I1 a2 a1 0 0 0 0 0 0 0 0 Bool.false (u.ins n0 (Go.Obj.cells #[(Value.int IntKind.i64 a0_0), (Value.int IntKind.i64 a0_1), (Value.int IntKind.i64 a0_2), (Value.int IntKind.i64 a0_3), (Value.int IntKind.i64 a0_4), (Value.int IntKind.i64 a0_5), (Value.int IntKind.i64 a0_6), (Value.int IntKind.i64 a0_7), (Value.bool a0_8)] 140 (0, 0)))) ∧ (∀ x3 : Int, ∀ x4 : Int, ∀ x5 : Int, ∀ x6 : Int, ∀ x7 : Int, ∀ x8 : Int, ∀ x9 : Int, ∀ x10 : Int, ∀ x11 : Int, ∀ x12 : Int, ∀ b13 : Bool, ∀ u14 : H, (I1 x3 x4 x5 x6 x7 x8 x9 x10 x11 x12 b13 u14) → (((0 : Int) < x3) → (((8 : Int) ≤ x4) → H.St u14 (Addr.add (Addr.mk n0 0 none) 8) [(Value.bool Bool.true)] (fun (u15 : H) => ∃ x16 : Int, ((H.cell? u15 (Addr.mk n0 0 none)) = (some (Value.int IntKind.i64 x16))) ∧ (∃ x17 : Int, ((H.cell? u15 (Addr.add (Addr.mk n0 0 none) 1)) = (some (Value.int IntKind.i64 x17))) ∧ (∃ x18 : Int, ((H.cell? u15 (Addr.add (Addr.mk n0 0 none) 2)) = (some (Value.int IntKind.i64 x18))) ∧ (∃ x19 : Int, ((H.cell? u15 (Addr.add (Addr.mk n0 0 none) 3)) = (some (Value.int IntKind.i64 x19))) ∧ (∃ x20 : Int, ((H.cell? u15 (Addr.add (Addr.mk n0 0 none) 4)) = (some (Value.int IntKind.i64 x20))) ∧ (∃ x21 : Int, ((H.cell? u15 (Addr.add (Addr.mk n0 0 none) 5)) = (some (Value.int IntKind.i64 x21))) ∧ (∃ x22 : Int, ((H.cell? u15 (Addr.add (Addr.mk n0 0 none) 6)) = (some (Value.int IntKind.i64 x22))) ∧ (∃ x23 : Int, ((H.cell? u15 (Addr.add (Addr.mk n0 0 none) 7)) = (some (Value.int IntKind.i64 x23))) ∧ (∃ b24 : Bool, ((H.cell? u15 (Addr.add (Addr.mk n0 0 none) 8)) = (some (Value.bool b24))) ∧ (K x16 x17 x18 x19 x20 x21 x22 x23 b24 u15))))))))))) ∧ ((¬ ((8 : Int) ≤ x4)) → (2 ≤ 8) ∧ ((((0 : Int) ≤ x4) ∧ (x4 < (8 : Int))) ∧ (∃ x25 : Int, ((H.cell? u14 (Addr.add (Addr.mk n0 0 none) ((Int.toNat x4) * 1))) = (some (Value.int IntKind.i64 x25))) ∧ ((InR (x3 + x25)) ∧ (((65536 : Int) ≠ 0) ∧ ((2 ≤ 8) ∧ ((((0 : Int) ≤ x4) ∧ (x4 < (8 : Int))) ∧ (H.St u14 (Addr.add (Addr.mk n0 0 none) ((Int.toNat x4) * 1)) [(Value.int IntKind.i64 (Int.tmod (x3 + x25) 65536))] (fun (u26 : H) => ((65536 : Int) ≠ 0) ∧ ((InR (Int.tdiv (x3 + x25) 65536)) ∧ ((InR (x4 + 1)) ∧ ((I1 (Int.tdiv (x3 + x25) 65536) (x4 + 1) x5 x6 x7 x8 x9 x10 x11 x12 b13 u26) ∧ ((I2 (Int.tdiv (x3 + x25) 65536) (x4 + 1) x5 x6 x7 x8 x9 x10 x11 x12 b13 u26) < (I2 x3 x4 x5 x6 x7 x8 x9 x10 x11 x12 b13 u14))))))))))))))) ∧ ((¬ ((0 : Int) < x3)) → ∃ x27 : Int, ((H.cell? u14 (Addr.mk n0 0 none)) = (some (Value.int IntKind.i64 x27))) ∧ (∃ x28 : Int, ((H.cell? u14 (Addr.add (Addr.mk n0 0 none) 1)) = (some (Value.int IntKind.i64 x28))) ∧ (∃ x29 : Int, ((H.cell? u14 (Addr.add (Addr.mk n0 0 none) 2)) = (some (Value.int IntKind.i64 x29))) ∧ (∃ x30 : Int, ((H.cell? u14 (Addr.add (Addr.mk n0 0 none) 3)) = (some (Value.int IntKind.i64 x30))) ∧ (∃ x31 : Int, ((H.cell? u14 (Addr.add (Addr.mk n0 0 none) 4)) = (some (Value.int IntKind.i64 x31))) ∧ (∃ x32 : Int, ((H.cell? u14 (Addr.add (Addr.mk n0 0 none) 5)) = (some (Value.int IntKind.i64 x32))) ∧ (∃ x33 : Int, ((H.cell? u14 (Addr.add (Addr.mk n0 0 none) 6)) = (some (Value.int IntKind.i64 x33))) ∧ (∃ x34 : Int, ((H.cell? u14 (Addr.add (Addr.mk n0 0 none) 7)) = (some (Value.int IntKind.i64 x34))) ∧ (∃ b35 : Bool, ((H.cell? u14 (Addr.add (Addr.mk n0 0 none) 8)) = (some (Value.bool b35))) ∧ (K x27 x28 x29 x30 x31 x32 x33 x34 b35 u14)))))))))))) : C.theodoliteref01_Num__plus a0_0 a0_1 a0_2 a0_3 a0_4 a0_5 a0_6 a0_7 a0_8 a1 a2 u K :=
  fn_sound' (C := { P := Tryz.prog, exp := [3], wrap := false, eqT := eqT, ent := [], nxt := [] }) (args := [(Value.agg #[(Value.int IntKind.i64 a0_0), (Value.int IntKind.i64 a0_1), (Value.int IntKind.i64 a0_2), (Value.int IntKind.i64 a0_3), (Value.int IntKind.i64 a0_4), (Value.int IntKind.i64 a0_5), (Value.int IntKind.i64 a0_6), (Value.int IntKind.i64 a0_7), (Value.bool a0_8)]), (Value.int IntKind.i64 a1), (Value.int IntKind.i64 a2)]) (good _ _) Tryz.func194 (by kernel_rfl) [(26, ⟨[(2, .int .i64), (7, .int .i64)], [(0, [.int .i64, .int .i64, .int .i64, .int .i64, .int .i64, .int .i64, .int .i64, .int .i64, .bool])]⟩)] (by kernel_rfl) (by kernel_rfl) (Eq.mp (by kernel_rfl) h)
theorem vc.slices_rotateCmpFunc_int_ (a0 : Sl) (a1 : Int) (a2 : Int) (a3 : Int) (a4 : Value) (u : H) (K : H → Prop) (h : (InR (a2 - a1)) ∧ ((InR (a3 - a2)) ∧ (∃ I0 : (Int → (Int → (H → Prop))), ∃ I1 : (Int → (Int → (H → Nat))), (I0 (a2 - a1) (a3 - a2) u) ∧ (∀ x2 : Int, ∀ x3 : Int, ∀ u4 : H, (I0 x2 x3 u4) → ((¬ (x2 = x3)) → ((x3 < x2) → (InR (a2 - x2)) ∧ (C.slices_swapRangeCmpFunc_int_ a0 (a2 - x2) a2 x3 a4 u4 (fun (u5 : H) => (InR (x2 - x3)) ∧ ((I0 (x2 - x3) x3 u5) ∧ ((I1 (x2 - x3) x3 u5) < (I1 x2 x3 u4)))))) ∧ ((¬ (x3 < x2)) → (InR (a2 - x2)) ∧ ((InR (a2 + x3)) ∧ ((InR ((a2 + x3) - x2)) ∧ (C.slices_swapRangeCmpFunc_int_ a0 (a2 - x2) ((a2 + x3) - x2) x2 a4 u4 (fun (u6 : H) => (InR (x3 - x2)) ∧ ((I0 x2 (x3 - x2) u6) ∧ ((I1 x2 (x3 - x2) u6) < (I1 x2 x3 u4))))))))) ∧ ((x2 = x3) → (InR (a2 - x2)) ∧ (C.slices_swapRangeCmpFunc_int_ a0 (a2 - x2) a2 x2 a4 u4 (fun (u7 : H) => K u7))))))) : C.slices_rotateCmpFunc_int_ a0 a1 a2 a3 a4 u K :=
  fn_sound' (C := { P := Tryz.prog, exp := [], wrap := false, eqT := eqT, ent := [], nxt := [] }) (args := [(Value.slice a0.a a0.n a0.c), (Value.int IntKind.i64 a1), (Value.int IntKind.i64 a2), (Value.int IntKind.i64 a3), a4]) (good _ _) Tryz.func195 (by kernel_rfl) [(28, ⟨[(10, .int .i64), (11, .int .i64)], []⟩)] (by kernel_rfl) (by kernel_rfl) (Eq.mp (by kernel_rfl) h)
theorem vc.rand_Source__changes_1 (a0 : Value) (a1 : Addr) (a2 : Addr) (u : H) (K : H → Prop) (h : ∃ x0 : Int, ((H.cell? u a1) = (some (Value.int IntKind.i64 x0))) ∧ ((InR (x0 - 1)) ∧ (∃ I1 : (Int → (H → Prop)), ∃ I2 : (Int → (H → Nat)), (I1 (x0 - 1) u) ∧ (∀ x3 : Int, ∀ u4 : H, (I1 x3 u4) → (((1 : Int) ≤ x3) → ∃ p5 : (Option Addr), ((H.cell? u4 a2) = (some (Value.pointer p5))) ∧ (C.rand_Source__Next p5 u4 (fun (x6 : Int) (u7 : H) => (InR (x3 + 1)) ∧ (((IntKind.wrap IntKind.u64 (x3 + 1)) ≠ 0) ∧ (ClY Tryz.prog a0 #[(Value.int IntKind.i64 x3), (Value.int IntKind.i64 (IntKind.wrap IntKind.i64 (Int.tmod x6 (IntKind.wrap IntKind.u64 (x3 + 1)))))] [(Sh.one CT.bool)] u7 (fun (b8 : Bool) (u9 : H) => ((¬ (b8 = Bool.true)) → K u9) ∧ ((b8 = Bool.true) → (InR (x3 - 1)) ∧ ((I1 (x3 - 1) u9) ∧ ((I2 (x3 - 1) u9) < (I2 x3 u4)))))))))) ∧ ((¬ ((1 : Int) ≤ x3)) → K u4))))) : C.rand_Source__changes_1 a0 a1 a2 u K :=
  fn_soundC 1 (C := { P := Tryz.prog, exp := [], wrap := false, eqT := eqT, ent := [], nxt := [] }) (args := [a0, (Value.pointer (some a1)), (Value.pointer (some a2))]) (good _ _) Tryz.func196 (by kernel_rfl) [(6, ⟨[(4, .int .i64)], []⟩)] (by kernel_rfl) (by kernel_rfl) (Eq.mp (by kernel_rfl) h)
theorem vc.rand_Source__Next (a0 : (Option Addr)) (u : H) (K : Int → H → Prop) (h : ((a0 = none) → K 0 u) ∧ ((¬ (a0 = none)) → ∃ r0 : Addr, (a0 = (some r0)) ∧ (∃ x1 : Int, ((H.cell? u r0) = (some (Value.int IntKind.u64 x1))) ∧ (∃ r2 : Addr, (a0 = (some r2)) ∧ (H.St u r2 [(Value.int IntKind.u64 (IntKind.wrap IntKind.u64 (x1 + 11400714819323198485)))] (fun (u3 : H) => ∃ r4 : Addr, (a0 = (some r4)) ∧ (∃ x5 : Int, ((H.cell? u3 r4) = (some (Value.int IntKind.u64 x5))) ∧ (((0 : Int) ≤ 30) ∧ (((0 : Int) ≤ 27) ∧ (((0 : Int) ≤ 31) ∧ (K (Go.bits BinOp.xor IntKind.u64 (IntKind.wrap IntKind.u64 ((Go.bits BinOp.xor IntKind.u64 (IntKind.wrap IntKind.u64 ((Go.bits BinOp.xor IntKind.u64 x5 (Int.fdiv x5 (2 ^ 30))) * 13787848793156543929)) (Int.fdiv (IntKind.wrap IntKind.u64 ((Go.bits BinOp.xor IntKind.u64 x5 (Int.fdiv x5 (2 ^ 30))) * 13787848793156543929)) (2 ^ 27))) * 10723151780598845931)) (Int.fdiv (IntKind.wrap IntKind.u64 ((Go.bits BinOp.xor IntKind.u64 (IntKind.wrap IntKind.u64 ((Go.bits BinOp.xor IntKind.u64 x5 (Int.fdiv x5 (2 ^ 30))) * 13787848793156543929)) (Int.fdiv (IntKind.wrap IntKind.u64 ((Go.bits BinOp.xor IntKind.u64 x5 (Int.fdiv x5 (2 ^ 30))) * 13787848793156543929)) (2 ^ 27))) * 10723151780598845931)) (2 ^ 31))) u3))))))))))) : C.rand_Source__Next a0 u K :=
  fn_sound' (C := { P := Tryz.prog, exp := [], wrap := false, eqT := eqT, ent := [], nxt := [] }) (args := [(Value.pointer a0)]) (good _ _) Tryz.func197 (by kernel_rfl) [] (by kernel_rfl) (by kernel_rfl) (Eq.mp (by kernel_rfl) h)
theorem vc.theodoliteref03_CheckRegion (a0_0 : Int) (a0_1 : Sl) (a0_2 : Sl) (a0_3 : Int) (a0_4 : Int) (a0_5 : Sl) (a1 : Int) (u : H) (K : Int → H → Prop) (h : ∀ K0 : (Int → (H → Prop)), (∀ x1 : Int, ∀ u2 : H, (∀ K3 : (Int → (H → Prop)), (∀ x4 : Int, ∀ u5 : H, (((a0_0 = 1) → K 0 u5) ∧ ((¬ (a0_0 = 1)) → C.theodoliteref03_Check a0_1 a1 u5 (fun (x6 : Int) (u7 : H) => ∀ K8 : (Int → (H → Prop)), (∀ x9 : Int, ∀ u10 : H, (C.theodoliteref03_Check a0_2 a1 u10 (fun (x11 : Int) (u12 : H) => ((¬ (x11 = 0)) → K x11 u12) ∧ ((x11 = 0) → ∃ I13 : (Int → (Int → (H → Prop))), ∃ I14 : (Int → (Int → (H → Nat))), (I13 x9 0 u12) ∧ (∀ x15 : Int, ∀ x16 : Int, ∀ u17 : H, (I13 x15 x16 u17) → ((x16 < a1) → ∃ r18 : Addr, (a0_1.a = (some r18)) ∧ ((((0 : Int) ≤ x16) ∧ (x16 < (a0_1.n : Int))) ∧ (∃ x19 : Int, ((H.cell? u17 (Addr.add r18 ((Int.toNat x16) * 1))) = (some (Value.int IntKind.i64 x19))) ∧ (∃ r20 : Addr, (a0_2.a = (some r20)) ∧ ((((0 : Int) ≤ x16) ∧ (x16 < (a0_2.n : Int))) ∧ (∃ x21 : Int, ((H.cell? u17 (Addr.add r20 ((Int.toNat x16) * 1))) = (some (Value.int IntKind.i64 x21))) ∧ (((x21 < x19) → K 32 u17) ∧ ((¬ (x21 < x19)) → (InR (x16 + 1)) ∧ ((I13 x15 (x16 + 1) u17) ∧ ((I14 x15 (x16 + 1) u17) < (I14 x15 x16 u17))))))))))) ∧ ((¬ (x16 < a1)) → K 0 u17))))) → K8 x9 u10) → ((¬ (x6 = 0)) → K x6 u7) ∧ ((x6 = 0) → ((a0_0 = 3) → K x6 u7) ∧ ((¬ (a0_0 = 3)) → K8 x4 u7))))) → K3 x4 u5) → C.theodoliteref03_form a0_0 a0_1 a0_2 a0_3 a0_4 a0_5 u2 (fun (b22 : Bool) (u23 : H) => ((¬ (b22 = Bool.true)) → K 32 u23) ∧ ((b22 = Bool.true) → C.theodoliteref03_ids a0_5 u23 (fun (b24 : Bool) (u25 : H) => ((¬ (b24 = Bool.true)) → K 32 u25) ∧ ((b24 = Bool.true) → K3 x1 u25))))) → K0 x1 u2) → ((a1 < 1) → K 30 u) ∧ ((¬ (a1 < 1)) → (((64 : Int) < a1) → K 30 u) ∧ ((¬ ((64 : Int) < a1)) → K0 0 u))) : C.theodoliteref03_CheckRegion a0_0 a0_1 a0_2 a0_3 a0_4 a0_5 a1 u K :=
  fn_sound' (C := { P := Tryz.prog, exp := [], wrap := false, eqT := eqT, ent := [], nxt := [] }) (args := [(Value.agg #[(Value.int IntKind.i64 a0_0), (Value.slice a0_1.a a0_1.n a0_1.c), (Value.slice a0_2.a a0_2.n a0_2.c), (Value.int IntKind.u64 a0_3), (Value.int IntKind.u64 a0_4), (Value.slice a0_5.a a0_5.n a0_5.c)]), (Value.int IntKind.i64 a1)]) (good _ _) Tryz.func198 (by kernel_rfl) [(3, ⟨[(4, .int .i64)], []⟩), (7, ⟨[(4, .int .i64)], []⟩), (63, ⟨[(4, .int .i64)], []⟩), (4090, ⟨[(4, .int .i64), (6, .int .i64)], []⟩)] (by kernel_rfl) (by kernel_rfl) (Eq.mp (by kernel_rfl) h)
theorem vc.theodoliteref03_In (a0_0 : Int) (a0_1 : Sl) (a0_2 : Sl) (a0_3 : Int) (a0_4 : Int) (a0_5 : Sl) (a1 : Sl) (u : H) (K : Bool → H → Prop) (h : ((a0_0 = 2) → ∃ I0 : (Bool → (Int → (H → Prop))), ∃ I1 : (Bool → (Int → (H → Nat))), (I0 Bool.false 0 u) ∧ (∀ b2 : Bool, ∀ x3 : Int, ∀ u4 : H, (I0 b2 x3 u4) → ((x3 < (a1.n : Int)) → ∀ K5 : (Bool → (H → Prop)), (∀ b6 : Bool, ∀ u7 : H, ((InR (x3 + 1)) ∧ ((I0 b6 (x3 + 1) u7) ∧ ((I1 b6 (x3 + 1) u7) < (I1 b2 x3 u4)))) → K5 b6 u7) → ∃ r8 : Addr, (a1.a = (some r8)) ∧ ((((0 : Int) ≤ x3) ∧ (x3 < (a1.n : Int))) ∧ (∃ x9 : Int, ((H.cell? u4 (Addr.add r8 ((Int.toNat x3) * 1))) = (some (Value.int IntKind.i64 x9))) ∧ (∃ r10 : Addr, (a0_1.a = (some r10)) ∧ ((((0 : Int) ≤ x3) ∧ (x3 < (a0_1.n : Int))) ∧ (∃ x11 : Int, ((H.cell? u4 (Addr.add r10 ((Int.toNat x3) * 1))) = (some (Value.int IntKind.i64 x11))) ∧ (((x9 < x11) → K Bool.false u4) ∧ ((¬ (x9 < x11)) → ∃ r12 : Addr, (a1.a = (some r12)) ∧ ((((0 : Int) ≤ x3) ∧ (x3 < (a1.n : Int))) ∧ (∃ x13 : Int, ((H.cell? u4 (Addr.add r12 ((Int.toNat x3) * 1))) = (some (Value.int IntKind.i64 x13))) ∧ (∃ r14 : Addr, (a0_2.a = (some r14)) ∧ ((((0 : Int) ≤ x3) ∧ (x3 < (a0_2.n : Int))) ∧ (∃ x15 : Int, ((H.cell? u4 (Addr.add r14 ((Int.toNat x3) * 1))) = (some (Value.int IntKind.i64 x15))) ∧ (((x15 < x13) → K Bool.false u4) ∧ ((¬ (x15 < x13)) → K5 b2 u4))))))))))))))) ∧ ((¬ (x3 < (a1.n : Int))) → K Bool.true u4))) ∧ ((¬ (a0_0 = 2)) → ((a0_0 = 3) → C.theodoliteref03_Far a0_1 a1 u (fun (x16 : Int) (x17 : Int) (u18 : H) => (H.le u u18) ∧ (C.theodoliteref01_Less a0_3 a0_4 x16 x17 u18 (fun (b19 : Bool) (u20 : H) => K (Bool.not (@decide (b19 = Bool.true) (@inferInstance (@Decidable (@Eq @Bool b19 @Bool.true)) (@instDecidableEqBool b19 @Bool.true)))) u20)))) ∧ ((¬ (a0_0 = 3)) → K Bool.true u))) : C.theodoliteref03_In a0_0 a0_1 a0_2 a0_3 a0_4 a0_5 a1 u K :=
  fn_sound' (C := { P := Tryz.prog, exp := [], wrap := false, eqT := eqT, ent := [], nxt := [] }) (args := [(Value.agg #[(Value.int IntKind.i64 a0_0), (Value.slice a0_1.a a0_1.n a0_1.c), (Value.slice a0_2.a a0_2.n a0_2.c), (Value.int IntKind.u64 a0_3), (Value.int IntKind.u64 a0_4), (Value.slice a0_5.a a0_5.n a0_5.c)]), (Value.slice a1.a a1.n a1.c)]) (good _ _) Tryz.func199 (by kernel_rfl) [(426, ⟨[(4, .bool), (5, .int .i64)], []⟩), (1705, ⟨[(4, .bool)], []⟩)] (by kernel_rfl) (by kernel_rfl) (Eq.mp (by kernel_rfl) h)
theorem vc.theodoliteref05_Before (a0_0 : Int) (a0_1 : Int) (a0_2 : Int) (a1_0 : Int) (a1_1 : Int) (a1_2 : Int) (u : H) (K : Bool → H → Prop) (h : ((¬ ((a0_1 = a1_1) ∧ (a0_2 = a1_2))) → C.theodoliteref01_Less a0_1 a0_2 a1_1 a1_2 u (fun (b0 : Bool) (u1 : H) => K b0 u1)) ∧ (((a0_1 = a1_1) ∧ (a0_2 = a1_2)) → K (@decide (a0_0 < a1_0) (@inferInstance (@Decidable (@LT.lt @Int @Int.instLTInt a0_0 a1_0)) (@Int.decLt a0_0 a1_0))) u)) : C.theodoliteref05_Before a0_0 a0_1 a0_2 a1_0 a1_1 a1_2 u K :=
  fn_sound' (C := { P := Tryz.prog, exp := [], wrap := false, eqT := eqT, ent := [], nxt := [] }) (args := [(Value.agg #[(Value.int IntKind.i64 a0_0), (Value.int IntKind.u64 a0_1), (Value.int IntKind.u64 a0_2)]), (Value.agg #[(Value.int IntKind.i64 a1_0), (Value.int IntKind.u64 a1_1), (Value.int IntKind.u64 a1_2)])]) (good _ _) Tryz.func200 (by kernel_rfl) [] (by kernel_rfl) (by kernel_rfl) (Eq.mp (by kernel_rfl) h)
theorem vc.slices_swapRangeCmpFunc_int_ (a0 : Sl) (a1 : Int) (a2 : Int) (a3 : Int) (a4 : Value) (u : H) (K : H → Prop) (h : ∃ I0 : (Int → (H → Prop)), ∃ I1 : (Int → (H → Nat)), (I0 0 u) ∧ (∀ x2 : Int, ∀ u3 : H, (I0 x2 u3) → ((x2 < a3) → (InR (a1 + x2)) ∧ ((InR (a2 + x2)) ∧ ((InR (a2 + x2)) ∧ (∃ r4 : Addr, (a0.a = (some r4)) ∧ ((((0 : Int) ≤ (a2 + x2)) ∧ ((a2 + x2) < (a0.n : Int))) ∧ ((InR (a1 + x2)) ∧ (∃ r5 : Addr, (a0.a = (some r5)) ∧ ((((0 : Int) ≤ (a1 + x2)) ∧ ((a1 + x2) < (a0.n : Int))) ∧ (∃ x6 : Int, ((H.cell? u3 (Addr.add r4 ((Int.toNat (a2 + x2)) * 1))) = (some (Value.int IntKind.i64 x6))) ∧ (∃ x7 : Int, ((H.cell? u3 (Addr.add r5 ((Int.toNat (a1 + x2)) * 1))) = (some (Value.int IntKind.i64 x7))) ∧ (∃ r8 : Addr, (a0.a = (some r8)) ∧ ((((0 : Int) ≤ (a1 + x2)) ∧ ((a1 + x2) < (a0.n : Int))) ∧ (H.St u3 (Addr.add r8 ((Int.toNat (a1 + x2)) * 1)) [(Value.int IntKind.i64 x6)] (fun (u9 : H) => ∃ r10 : Addr, (a0.a = (some r10)) ∧ ((((0 : Int) ≤ (a2 + x2)) ∧ ((a2 + x2) < (a0.n : Int))) ∧ (H.St u9 (Addr.add r10 ((Int.toNat (a2 + x2)) * 1)) [(Value.int IntKind.i64 x7)] (fun (u11 : H) => (InR (x2 + 1)) ∧ ((I0 (x2 + 1) u11) ∧ ((I1 (x2 + 1) u11) < (I1 x2 u3)))))))))))))))))))) ∧ ((¬ (x2 < a3)) → K u3))) : C.slices_swapRangeCmpFunc_int_ a0 a1 a2 a3 a4 u K :=
  fn_sound' (C := { P := Tryz.prog, exp := [], wrap := false, eqT := eqT, ent := [], nxt := [] }) (args := [(Value.slice a0.a a0.n a0.c), (Value.int IntKind.i64 a1), (Value.int IntKind.i64 a2), (Value.int IntKind.i64 a3), a4]) (good _ _) Tryz.func209 (by kernel_rfl) [(6, ⟨[(10, .int .i64)], []⟩)] (by kernel_rfl) (by kernel_rfl) (Eq.mp (by kernel_rfl) h)
theorem vc.theodoliteref03_form (a0_0 : Int) (a0_1 : Sl) (a0_2 : Sl) (a0_3 : Int) (a0_4 : Int) (a0_5 : Sl) (u : H) (K : Bool → H → Prop) (h : ((a0_0 = 1) → (((a0_1.n : Int) = 0) → (((a0_2.n : Int) = 0) → K (@decide ((a0_3 = 0) ∧ (a0_4 = 0)) (@PD.d (@PD.mk (@And (@PD.p (@PD.mk (@Eq @Int a0_3 (@Int.ofNat 0)) (@inferInstance (@Decidable (@Eq @Int a0_3 (@Int.ofNat 0))) (@Int.instDecidableEq a0_3 (@Int.ofNat 0))))) (@PD.p (@PD.mk (@Eq @Int a0_4 (@Int.ofNat 0)) (@inferInstance (@Decidable (@Eq @Int a0_4 (@Int.ofNat 0))) (@Int.instDecidableEq a0_4 (@Int.ofNat 0)))))) (@instDecidableAnd (@PD.p (@PD.mk (@Eq @Int a0_3 (@Int.ofNat 0)) (@inferInstance (@Decidable (@Eq @Int a0_3 (@Int.ofNat 0))) (@Int.instDecidableEq a0_3 (@Int.ofNat 0))))) (@PD.p (@PD.mk (@Eq @Int a0_4 (@Int.ofNat 0)) (@inferInstance (@Decidable (@Eq @Int a0_4 (@Int.ofNat 0))) (@Int.instDecidableEq a0_4 (@Int.ofNat 0))))) (@PD.d (@PD.mk (@Eq @Int a0_3 (@Int.ofNat 0)) (@inferInstance (@Decidable (@Eq @Int a0_3 (@Int.ofNat 0))) (@Int.instDecidableEq a0_3 (@Int.ofNat 0))))) (@PD.d (@PD.mk (@Eq @Int a0_4 (@Int.ofNat 0)) (@inferInstance (@Decidable (@Eq @Int a0_4 (@Int.ofNat 0))) (@Int.instDecidableEq a0_4 (@Int.ofNat 0))))))))) u) ∧ ((¬ ((a0_2.n : Int) = 0)) → K Bool.false u)) ∧ ((¬ ((a0_1.n : Int) = 0)) → K Bool.false u)) ∧ ((¬ (a0_0 = 1)) → ((a0_0 = 2) → K (@decide ((a0_3 = 0) ∧ (a0_4 = 0)) (@PD.d (@PD.mk (@And (@PD.p (@PD.mk (@Eq @Int a0_3 (@Int.ofNat 0)) (@inferInstance (@Decidable (@Eq @Int a0_3 (@Int.ofNat 0))) (@Int.instDecidableEq a0_3 (@Int.ofNat 0))))) (@PD.p (@PD.mk (@Eq @Int a0_4 (@Int.ofNat 0)) (@inferInstance (@Decidable (@Eq @Int a0_4 (@Int.ofNat 0))) (@Int.instDecidableEq a0_4 (@Int.ofNat 0)))))) (@instDecidableAnd (@PD.p (@PD.mk (@Eq @Int a0_3 (@Int.ofNat 0)) (@inferInstance (@Decidable (@Eq @Int a0_3 (@Int.ofNat 0))) (@Int.instDecidableEq a0_3 (@Int.ofNat 0))))) (@PD.p (@PD.mk (@Eq @Int a0_4 (@Int.ofNat 0)) (@inferInstance (@Decidable (@Eq @Int a0_4 (@Int.ofNat 0))) (@Int.instDecidableEq a0_4 (@Int.ofNat 0))))) (@PD.d (@PD.mk (@Eq @Int a0_3 (@Int.ofNat 0)) (@inferInstance (@Decidable (@Eq @Int a0_3 (@Int.ofNat 0))) (@Int.instDecidableEq a0_3 (@Int.ofNat 0))))) (@PD.d (@PD.mk (@Eq @Int a0_4 (@Int.ofNat 0)) (@inferInstance (@Decidable (@Eq @Int a0_4 (@Int.ofNat 0))) (@Int.instDecidableEq a0_4 (@Int.ofNat 0))))))))) u) ∧ ((¬ (a0_0 = 2)) → ((a0_0 = 3) → K (@decide ((a0_2.n : Int) = 0) (@inferInstance (@Decidable (@Eq @Int (@Nat.cast @Int @instNatCastInt (@Sl.n a0_2)) (@OfNat.ofNat @Int 0 (@instOfNat 0)))) (@Int.instDecidableEq (@Nat.cast @Int @instNatCastInt (@Sl.n a0_2)) (@OfNat.ofNat @Int 0 (@instOfNat 0))))) u) ∧ ((¬ (a0_0 = 3)) → K Bool.false u)))) : C.theodoliteref03_form a0_0 a0_1 a0_2 a0_3 a0_4 a0_5 u K :=
  fn_sound' (C := { P := Tryz.prog, exp := [], wrap := false, eqT := eqT, ent := [], nxt := [] }) (args := [(Value.agg #[(Value.int IntKind.i64 a0_0), (Value.slice a0_1.a a0_1.n a0_1.c), (Value.slice a0_2.a a0_2.n a0_2.c), (Value.int IntKind.u64 a0_3), (Value.int IntKind.u64 a0_4), (Value.slice a0_5.a a0_5.n a0_5.c)])]) (good _ _) Tryz.func210 (by kernel_rfl) [] (by kernel_rfl) (by kernel_rfl) (Eq.mp (by kernel_rfl) h)
theorem vc.theodoliteref03_ids (a0 : Sl) (u : H) (K : Bool → H → Prop) (h : ∃ I0 : (Bool → (Int → (H → Prop))), ∃ I1 : (Bool → (Int → (H → Nat))), (I0 Bool.false 0 u) ∧ (∀ b2 : Bool, ∀ x3 : Int, ∀ u4 : H, (I0 b2 x3 u4) → ((x3 < (a0.n : Int)) → ∀ K5 : (Bool → (H → Prop)), (∀ b6 : Bool, ∀ u7 : H, ((InR (x3 + 1)) ∧ ((I0 b6 (x3 + 1) u7) ∧ ((I1 b6 (x3 + 1) u7) < (I1 b2 x3 u4)))) → K5 b6 u7) → ∃ r8 : Addr, (a0.a = (some r8)) ∧ ((((0 : Int) ≤ x3) ∧ (x3 < (a0.n : Int))) ∧ (∃ x9 : Int, ((H.cell? u4 (Addr.add r8 ((Int.toNat x3) * 1))) = (some (Value.int IntKind.i64 x9))) ∧ (C.theodoliteref03_Id x9 u4 (fun (b10 : Bool) (u11 : H) => ((¬ (b10 = Bool.true)) → (K Bool.false u11) ∧ (K Bool.false u11)) ∧ ((b10 = Bool.true) → (((0 : Int) < x3) → (InR (x3 - 1)) ∧ (∃ r12 : Addr, (a0.a = (some r12)) ∧ ((((0 : Int) ≤ (x3 - 1)) ∧ ((x3 - 1) < (a0.n : Int))) ∧ (∃ r13 : Addr, (a0.a = (some r13)) ∧ ((((0 : Int) ≤ x3) ∧ (x3 < (a0.n : Int))) ∧ ((∃ x14 : Int, ((H.cell? u11 (Addr.add r12 ((Int.toNat (x3 - 1)) * 1))) = (some (Value.int IntKind.i64 x14))) ∧ (∃ x15 : Int, ((H.cell? u11 (Addr.add r13 ((Int.toNat x3) * 1))) = (some (Value.int IntKind.i64 x15))) ∧ (((x15 ≤ x14) → K Bool.false u11) ∧ ((¬ (x15 ≤ x14)) → K5 b2 u11)))) ∧ (∃ x16 : Int, ((H.cell? u11 (Addr.add r13 ((Int.toNat x3) * 1))) = (some (Value.int IntKind.i64 x16))) ∧ (∃ x17 : Int, ((H.cell? u11 (Addr.add r12 ((Int.toNat (x3 - 1)) * 1))) = (some (Value.int IntKind.i64 x17))) ∧ (((x16 ≤ x17) → K Bool.false u11) ∧ ((¬ (x16 ≤ x17)) → K5 b2 u11)))))))))) ∧ ((¬ ((0 : Int) < x3)) → (K5 b2 u11) ∧ (K5 b2 u11)))))))) ∧ ((¬ (x3 < (a0.n : Int))) → K Bool.true u4))) : C.theodoliteref03_ids a0 u K :=
  fn_sound' (C := { P := Tryz.prog, exp := [], wrap := false, eqT := eqT, ent := [], nxt := [] }) (args := [(Value.slice a0.a a0.n a0.c)]) (good _ _) Tryz.func211 (by kernel_rfl) [(26, ⟨[(2, .bool), (3, .int .i64)], []⟩), (105, ⟨[(2, .bool)], []⟩)] (by kernel_rfl) (by kernel_rfl) (Eq.mp (by kernel_rfl) h)
theorem vc.flat_queue__Less (a0 : Sl) (a1 : Int) (a2 : Int) (u : H) (K : Bool → H → Prop) (h : ∃ r0 : Addr, (a0.a = (some r0)) ∧ ((((0 : Int) ≤ a1) ∧ (a1 < (a0.n : Int))) ∧ (∃ r1 : Addr, (a0.a = (some r1)) ∧ ((((0 : Int) ≤ a2) ∧ (a2 < (a0.n : Int))) ∧ (∃ x2 : Int, ((H.cell? u (Addr.add (Addr.add r0 ((Int.toNat a1) * 3)) 1)) = (some (Value.int IntKind.u64 x2))) ∧ (∃ x3 : Int, ((H.cell? u (Addr.add (Addr.add (Addr.add r0 ((Int.toNat a1) * 3)) 1) 1)) = (some (Value.int IntKind.u64 x3))) ∧ (∃ x4 : Int, ((H.cell? u (Addr.add (Addr.add r1 ((Int.toNat a2) * 3)) 1)) = (some (Value.int IntKind.u64 x4))) ∧ (∃ x5 : Int, ((H.cell? u (Addr.add (Addr.add (Addr.add r1 ((Int.toNat a2) * 3)) 1) 1)) = (some (Value.int IntKind.u64 x5))) ∧ (C.wide_Cmp x2 x3 x4 x5 u (fun (x6 : Int) (u7 : H) => K (@decide (x6 < 0) (@inferInstance (@Decidable (@LT.lt @Int @Int.instLTInt x6 (@OfNat.ofNat @Int 0 (@instOfNat 0)))) (@Int.decLt x6 (@OfNat.ofNat @Int 0 (@instOfNat 0))))) u7)))))))))) : C.flat_queue__Less a0 a1 a2 u K :=
  fn_sound' (C := { P := Tryz.prog, exp := [], wrap := false, eqT := eqT, ent := [], nxt := [] }) (args := [(Value.slice a0.a a0.n a0.c), (Value.int IntKind.i64 a1), (Value.int IntKind.i64 a2)]) (good _ _) Tryz.func231 (by kernel_rfl) [] (by kernel_rfl) (by kernel_rfl) (Eq.mp (by kernel_rfl) h)
theorem vc.flat_queue__Swap (a0 : Sl) (a1 : Int) (a2 : Int) (u : H) (K : H → Prop) (h : ∃ r0 : Addr, (a0.a = (some r0)) ∧ ((((0 : Int) ≤ a2) ∧ (a2 < (a0.n : Int))) ∧ (∃ r1 : Addr, (a0.a = (some r1)) ∧ ((((0 : Int) ≤ a1) ∧ (a1 < (a0.n : Int))) ∧ (∃ p2 : (Option Addr), ((H.cell? u (Addr.add r0 ((Int.toNat a2) * 3))) = (some (Value.pointer p2))) ∧ (∃ x3 : Int, ((H.cell? u (Addr.add (Addr.add r0 ((Int.toNat a2) * 3)) 1)) = (some (Value.int IntKind.u64 x3))) ∧ (∃ x4 : Int, ((H.cell? u (Addr.add (Addr.add r0 ((Int.toNat a2) * 3)) 2)) = (some (Value.int IntKind.u64 x4))) ∧ (∃ p5 : (Option Addr), ((H.cell? u (Addr.add r1 ((Int.toNat a1) * 3))) = (some (Value.pointer p5))) ∧ (∃ x6 : Int, ((H.cell? u (Addr.add (Addr.add r1 ((Int.toNat a1) * 3)) 1)) = (some (Value.int IntKind.u64 x6))) ∧ (∃ x7 : Int, ((H.cell? u (Addr.add (Addr.add r1 ((Int.toNat a1) * 3)) 2)) = (some (Value.int IntKind.u64 x7))) ∧ (∃ r8 : Addr, (a0.a = (some r8)) ∧ ((((0 : Int) ≤ a1) ∧ (a1 < (a0.n : Int))) ∧ (H.St u (Addr.add r8 ((Int.toNat a1) * 3)) [(Value.pointer p2), (Value.int IntKind.u64 x3), (Value.int IntKind.u64 x4)] (fun (u9 : H) => ∃ r10 : Addr, (a0.a = (some r10)) ∧ ((((0 : Int) ≤ a2) ∧ (a2 < (a0.n : Int))) ∧ (H.St u9 (Addr.add r10 ((Int.toNat a2) * 3)) [(Value.pointer p5), (Value.int IntKind.u64 x6), (Value.int IntKind.u64 x7)] (fun (u11 : H) => K u11))))))))))))))))) : C.flat_queue__Swap a0 a1 a2 u K :=
  fn_sound' (C := { P := Tryz.prog, exp := [], wrap := false, eqT := eqT, ent := [], nxt := [] }) (args := [(Value.slice a0.a a0.n a0.c), (Value.int IntKind.i64 a1), (Value.int IntKind.i64 a2)]) (good _ _) Tryz.func232 (by kernel_rfl) [] (by kernel_rfl) (by kernel_rfl) (Eq.mp (by kernel_rfl) h)
theorem vc.flat_queue__Pop (a0 : (Option Addr)) (u : H) (K : Value → H → Prop) (h : ∀ K0 : (Addr → (H → Prop)), (∀ r1 : Addr, ∀ u2 : H, (∃ r3 : Addr, (a0 = (some r3)) ∧ (∃ r4 : Addr, (a0 = (some r4)) ∧ (∃ s5 : Sl, ((H.cell? u2 r3) = (some (Value.slice s5.a s5.n s5.c))) ∧ (∃ s6 : Sl, ((H.cell? u2 r4) = (some (Value.slice s6.a s6.n s6.c))) ∧ ((InR ((s6.n : Int) - 1)) ∧ (SemT Tryz.prog (Instr.sliceAt 149 (Value.slice s5.a s5.n s5.c) none (some (Value.int IntKind.i64 ((s6.n : Int) - 1))) none) [(Sh.one CT.slice)] u2 (fun (s7 : Sl) (u8 : H) => ∃ r9 : Addr, (a0 = (some r9)) ∧ (H.St u8 r9 [(Value.slice s7.a s7.n s7.c)] (fun (u10 : H) => ∃ p11 : (Option Addr), ((H.cell? u10 r1) = (some (Value.pointer p11))) ∧ (∃ x12 : Int, ((H.cell? u10 (Addr.add r1 1)) = (some (Value.int IntKind.u64 x12))) ∧ (∃ x13 : Int, ((H.cell? u10 (Addr.add r1 2)) = (some (Value.int IntKind.u64 x13))) ∧ (K (Value.iface 154 (Value.agg #[(Value.pointer p11), (Value.int IntKind.u64 x12), (Value.int IntKind.u64 x13)])) u10)))))))))))) → K0 r1 u2) → ∃ r14 : Addr, (a0 = (some r14)) ∧ (∃ r15 : Addr, (a0 = (some r15)) ∧ (∃ s16 : Sl, ((H.cell? u r14) = (some (Value.slice s16.a s16.n s16.c))) ∧ (∃ s17 : Sl, ((H.cell? u r15) = (some (Value.slice s17.a s17.n s17.c))) ∧ ((InR ((s17.n : Int) - 1)) ∧ (∃ r18 : Addr, (s16.a = (some r18)) ∧ ((((0 : Int) ≤ ((s17.n : Int) - 1)) ∧ (((s17.n : Int) - 1) < (s16.n : Int))) ∧ (∃ p19 : (Option Addr), ((H.cell? u (Addr.add r18 ((Int.toNat ((s17.n : Int) - 1)) * 3))) = (some (Value.pointer p19))) ∧ (∃ x20 : Int, ((H.cell? u (Addr.add (Addr.add r18 ((Int.toNat ((s17.n : Int) - 1)) * 3)) 1)) = (some (Value.int IntKind.u64 x20))) ∧ (∃ x21 : Int, ((H.cell? u (Addr.add (Addr.add r18 ((Int.toNat ((s17.n : Int) - 1)) * 3)) 2)) = (some (Value.int IntKind.u64 x21))) ∧ (∀ n22 : Nat, ((u n22) = none) → (H.le u (u.ins n22 (Go.Obj.cells #[(Value.pointer none), (Value.int IntKind.u64 0), (Value.int IntKind.u64 0)] 154 (0, 0)))) ∧ (H.St (u.ins n22 (Go.Obj.cells #[(Value.pointer none), (Value.int IntKind.u64 0), (Value.int IntKind.u64 0)] 154 (0, 0))) (Addr.mk n22 0 none) [(Value.pointer p19), (Value.int IntKind.u64 x20), (Value.int IntKind.u64 x21)] (fun (u23 : H) => K0 (Addr.mk n22 0 none) u23))))))))))))) : C.flat_queue__Pop a0 u K :=
  fn_sound' (C := { P := Tryz.prog, exp := [3], wrap := false, eqT := eqT, ent := [], nxt := [] }) (args := [(Value.pointer a0)]) (good _ _) Tryz.func233 (by kernel_rfl) [(3, ⟨[(3, .addr)], []⟩)] (by kernel_rfl) (by kernel_rfl) (Eq.mp (by kernel_rfl) h)
theorem vc.flat_queue__Push (a0 : (Option Addr)) (a1 : Value) (u : H) (K : H → Prop) (h : ∃ r0 : Addr, (a0 = (some r0)) ∧ (∃ s1 : Sl, ((H.cell? u r0) = (some (Value.slice s1.a s1.n s1.c))) ∧ (SemT Tryz.prog (Instr.typeAssert a1 20 154 Bool.false) [(Sh.agg [CT.ptr, (CT.int IntKind.u64), (CT.int IntKind.u64)])] u (fun (p2 : (Option Addr)) (x3 : Int) (x4 : Int) (u5 : H) => (H.le u u5) ∧ (SemT Tryz.prog (Instr.buildSlice 149 1 #[(0, (Value.agg #[(Value.pointer p2), (Value.int IntKind.u64 x3), (Value.int IntKind.u64 x4)]))]) [(Sh.one CT.slice)] u5 (fun (s6 : Sl) (u7 : H) => (H.le u u7) ∧ (SemT Tryz.prog (Builtin.append_ #[149, 149] 149 #[(Value.slice s1.a s1.n s1.c), (Value.slice s6.a s6.n s6.c)]) [(Sh.one CT.slice)] u7 (fun (s8 : Sl) (u9 : H) => ∃ r10 : Addr, (a0 = (some r10)) ∧ (H.St u9 r10 [(Value.slice s8.a s8.n s8.c)] (fun (u11 : H) => K u11)))))))))) : C.flat_queue__Push a0 a1 u K :=
  fn_sound' (C := { P := Tryz.prog, exp := [], wrap := false, eqT := eqT, ent := [], nxt := [] }) (args := [(Value.pointer a0), a1]) (good _ _) Tryz.func234 (by kernel_rfl) [] (by kernel_rfl) (by kernel_rfl) (Eq.mp (by kernel_rfl) h)
theorem vc.topk_hits__Len (a0 : Sl) (u : H) (K : Int → H → Prop) (h : K (a0.n : Int) u) : C.topk_hits__Len a0 u K :=
  fn_sound' (C := { P := Tryz.prog, exp := [], wrap := false, eqT := eqT, ent := [], nxt := [] }) (args := [(Value.slice a0.a a0.n a0.c)]) (good _ _) Tryz.func235 (by kernel_rfl) [] (by kernel_rfl) (by kernel_rfl) (Eq.mp (by kernel_rfl) h)
theorem vc.topk_hits__Less (a0 : Sl) (a1 : Int) (a2 : Int) (u : H) (K : Bool → H → Prop) (h : ∃ r0 : Addr, (a0.a = (some r0)) ∧ ((((0 : Int) ≤ a2) ∧ (a2 < (a0.n : Int))) ∧ (∃ r1 : Addr, (a0.a = (some r1)) ∧ ((((0 : Int) ≤ a1) ∧ (a1 < (a0.n : Int))) ∧ (∃ x2 : Int, ((H.cell? u (Addr.add r0 ((Int.toNat a2) * 3))) = (some (Value.int IntKind.i64 x2))) ∧ (∃ x3 : Int, ((H.cell? u (Addr.add (Addr.add r0 ((Int.toNat a2) * 3)) 1)) = (some (Value.int IntKind.u64 x3))) ∧ (∃ x4 : Int, ((H.cell? u (Addr.add (Addr.add r0 ((Int.toNat a2) * 3)) 2)) = (some (Value.int IntKind.u64 x4))) ∧ (∃ x5 : Int, ((H.cell? u (Addr.add r1 ((Int.toNat a1) * 3))) = (some (Value.int IntKind.i64 x5))) ∧ (∃ x6 : Int, ((H.cell? u (Addr.add (Addr.add r1 ((Int.toNat a1) * 3)) 1)) = (some (Value.int IntKind.u64 x6))) ∧ (∃ x7 : Int, ((H.cell? u (Addr.add (Addr.add r1 ((Int.toNat a1) * 3)) 2)) = (some (Value.int IntKind.u64 x7))) ∧ (C.topk_Less x2 x3 x4 x5 x6 x7 u (fun (b8 : Bool) (u9 : H) => K b8 u9)))))))))))) : C.topk_hits__Less a0 a1 a2 u K :=
  fn_sound' (C := { P := Tryz.prog, exp := [], wrap := false, eqT := eqT, ent := [], nxt := [] }) (args := [(Value.slice a0.a a0.n a0.c), (Value.int IntKind.i64 a1), (Value.int IntKind.i64 a2)]) (good _ _) Tryz.func236 (by kernel_rfl) [] (by kernel_rfl) (by kernel_rfl) (Eq.mp (by kernel_rfl) h)
theorem vc.topk_hits__Swap (a0 : Sl) (a1 : Int) (a2 : Int) (u : H) (K : H → Prop) (h : ∃ r0 : Addr, (a0.a = (some r0)) ∧ ((((0 : Int) ≤ a2) ∧ (a2 < (a0.n : Int))) ∧ (∃ r1 : Addr, (a0.a = (some r1)) ∧ ((((0 : Int) ≤ a1) ∧ (a1 < (a0.n : Int))) ∧ (∃ x2 : Int, ((H.cell? u (Addr.add r0 ((Int.toNat a2) * 3))) = (some (Value.int IntKind.i64 x2))) ∧ (∃ x3 : Int, ((H.cell? u (Addr.add (Addr.add r0 ((Int.toNat a2) * 3)) 1)) = (some (Value.int IntKind.u64 x3))) ∧ (∃ x4 : Int, ((H.cell? u (Addr.add (Addr.add r0 ((Int.toNat a2) * 3)) 2)) = (some (Value.int IntKind.u64 x4))) ∧ (∃ x5 : Int, ((H.cell? u (Addr.add r1 ((Int.toNat a1) * 3))) = (some (Value.int IntKind.i64 x5))) ∧ (∃ x6 : Int, ((H.cell? u (Addr.add (Addr.add r1 ((Int.toNat a1) * 3)) 1)) = (some (Value.int IntKind.u64 x6))) ∧ (∃ x7 : Int, ((H.cell? u (Addr.add (Addr.add r1 ((Int.toNat a1) * 3)) 2)) = (some (Value.int IntKind.u64 x7))) ∧ (∃ r8 : Addr, (a0.a = (some r8)) ∧ ((((0 : Int) ≤ a1) ∧ (a1 < (a0.n : Int))) ∧ (H.St u (Addr.add r8 ((Int.toNat a1) * 3)) [(Value.int IntKind.i64 x2), (Value.int IntKind.u64 x3), (Value.int IntKind.u64 x4)] (fun (u9 : H) => ∃ r10 : Addr, (a0.a = (some r10)) ∧ ((((0 : Int) ≤ a2) ∧ (a2 < (a0.n : Int))) ∧ (H.St u9 (Addr.add r10 ((Int.toNat a2) * 3)) [(Value.int IntKind.i64 x5), (Value.int IntKind.u64 x6), (Value.int IntKind.u64 x7)] (fun (u11 : H) => K u11))))))))))))))))) : C.topk_hits__Swap a0 a1 a2 u K :=
  fn_sound' (C := { P := Tryz.prog, exp := [], wrap := false, eqT := eqT, ent := [], nxt := [] }) (args := [(Value.slice a0.a a0.n a0.c), (Value.int IntKind.i64 a1), (Value.int IntKind.i64 a2)]) (good _ _) Tryz.func237 (by kernel_rfl) [] (by kernel_rfl) (by kernel_rfl) (Eq.mp (by kernel_rfl) h)
theorem vc.topk_hits__Push (a0 : (Option Addr)) (a1 : Value) (u : H) (K : H → Prop) (h : SemT Tryz.prog (Instr.typeAssert a1 20 66 Bool.true) [(Sh.agg [(CT.int IntKind.i64), (CT.int IntKind.u64), (CT.int IntKind.u64)]), (Sh.one CT.bool)] u (fun (x0 : Int) (x1 : Int) (x2 : Int) (b3 : Bool) (u4 : H) => ((b3 = Bool.true) → ∃ r5 : Addr, (a0 = (some r5)) ∧ (∃ s6 : Sl, ((H.cell? u4 r5) = (some (Value.slice s6.a s6.n s6.c))) ∧ (SemT Tryz.prog (Instr.buildSlice 172 1 #[(0, (Value.agg #[(Value.int IntKind.i64 x0), (Value.int IntKind.u64 x1), (Value.int IntKind.u64 x2)]))]) [(Sh.one CT.slice)] u4 (fun (s7 : Sl) (u8 : H) => (H.le u4 u8) ∧ (SemT Tryz.prog (Builtin.append_ #[172, 172] 172 #[(Value.slice s6.a s6.n s6.c), (Value.slice s7.a s7.n s7.c)]) [(Sh.one CT.slice)] u8 (fun (s9 : Sl) (u10 : H) => ∃ r11 : Addr, (a0 = (some r11)) ∧ (H.St u10 r11 [(Value.slice s9.a s9.n s9.c)] (fun (u12 : H) => K u12)))))))) ∧ ((b3 = Bool.false) → K u4))) : C.topk_hits__Push a0 a1 u K :=
  fn_sound' (C := { P := Tryz.prog, exp := [], wrap := false, eqT := eqT, ent := [], nxt := [] }) (args := [(Value.pointer a0), a1]) (good _ _) Tryz.func239 (by kernel_rfl) [] (by kernel_rfl) (by kernel_rfl) (Eq.mp (by kernel_rfl) h)
end Go.Proofs.YtljbcihbgeiacaaGreat

/- VcWide -/
namespace Go.Proofs.YtljbcihbgeiacaaGreat

def U64 (x : Int) : Prop := 0 ≤ x ∧ x < 18446744073709551616

/-- What a Wide tells. -/
def wv (hi lo : Int) : Int := hi * 18446744073709551616 + lo

theorem spec.wide_Cmp {a b c d : Int} {u : H} {K : Int → H → Prop} (ha : U64 b) (hb : U64 d)
    (h : K (if wv a b < wv c d then -1 else if wv c d < wv a b then 1 else 0) u) : C.wide_Cmp a b c d u K := by
  apply vc.wide_Cmp
  have key : ∀ z, (if wv a b < wv c d then (-1 : Int) else if wv c d < wv a b then 1 else 0) = z → K z u := fun z e => e ▸ h
  simp only [U64, wv] at *
  refine ⟨fun h => key _ ?_, fun h => ⟨fun h1 => key _ ?_, fun h1 => ⟨fun h2 => ⟨fun h3 => key _ ?_, fun h3 => key _ ?_⟩, fun h2 => key _ ?_⟩⟩⟩
  all_goals (repeat' split) <;> omega

theorem add64 {a b c : Int} {u : H} {K : Int → Int → H → Prop} (ha : U64 a) (hb : U64 b) (hc0 : 0 ≤ c) (hc : c ≤ 1)
    (h : K ((a + b + c) % 18446744073709551616) ((a + b + c) / 18446744073709551616) u) :
    SemT Tryz.prog (callX 201 #[.int .u64 a, .int .u64 b, .int .u64 c]) [.one (.int .u64), .one (.int .u64)] u K := by
  refine SemT.pure [.int .u64 ((a + b + c) % 18446744073709551616), .int .u64 ((a + b + c) / 18446744073709551616)] (fun w _ => ?_) (.cons (t := .int .u64) _ (.cons (t := .int .u64) _ .nil)) h
  unfold callX
  rw [Sem.run_bind, run_callFunc_extern Tryz.func201 (by kernel_rfl) (by kernel_rfl) (by kernel_rfl) (e := add64Entry) (by kernel_rfl), run_add64 a b c ha.1 hb.1 hc0 hc]
  rfl

theorem spec.wide_Add {a b c d : Int} {u : H} {K : Int → Int → Int → H → Prop} (ha : U64 a) (hb : U64 b) (hc : U64 c) (hd : U64 d)
    (h1 : ∀ x y, U64 x → U64 y → wv x y = wv a b + wv c d → K x y 0 u) (h2 : 340282366920938463463374607431768211456 ≤ wv a b + wv c d → K 0 0 10 u) : C.wide_Add a b c d u K := by
  apply vc.wide_Add
  simp only [U64, wv] at *
  refine add64 hb hd (by omega) (by omega) (add64 ha hc (by omega) (by omega) ⟨fun h => h2 (by omega), fun h => h1 _ _ (by omega) (by omega) (by omega)⟩)

theorem spec.bits_Mul64 {a b : Int} {u : H} {K : Int → Int → H → Prop} (ha : U64 a) (hb : U64 b)
    (h : K (a * b / 18446744073709551616) (a * b % 18446744073709551616) u) : C.bits_Mul64 a b u K := by
  apply vc.bits_Mul64
  refine ⟨by omega, by omega, by omega, by omega, by omega, ?_⟩
  have e := mul64_arith a b ha.1 ha.2 hb.1 hb.2
  have w : ∀ z, IntKind.wrap .u64 z = z % 18446744073709551616 := IntKind.wrap_u64
  have al : ∀ z, 0 ≤ z → z < 18446744073709551616 → bits .and .u64 z 4294967295 = z % 4294967296 := and_low32
  have p : (2 : Int) ^ 32 = 4294967296 := by decide
  have fd : ∀ z : Int, Int.fdiv z 4294967296 = z / 4294967296 := fun z => Int.fdiv_eq_ediv_of_nonneg z (by decide)
  simp only [w, p, fd, al a ha.1 ha.2, al b hb.1 hb.2]
  rw [al _ (by omega) (by omega), e]
  exact h

theorem spec.wide_Mul {a b : Int} {u : H} {K : Int → Int → H → Prop} (ha : U64 a) (hb : U64 b)
    (h : ∀ x y, U64 x → U64 y → wv x y = a * b → K x y u) : C.wide_Mul a b u K := by
  apply vc.wide_Mul
  refine spec.bits_Mul64 ha hb (h _ _ ?_ ?_ ?_)
  · obtain ⟨h1, h2⟩ := ha
    obtain ⟨h3, h4⟩ := hb
    have := Int.mul_nonneg h1 h3
    have : a * b ≤ 18446744073709551615 * 18446744073709551615 := Int.mul_le_mul (by omega) (by omega) h3 (by omega)
    constructor <;> omega
  · constructor <;> omega
  · unfold wv; omega

/-- A coordinate as it must be. -/
def coordOk (x : Int) : Prop := -2147483647 ≤ x ∧ x ≤ 2147483647
instance (x : Int) : Decidable (coordOk x) := inferInstanceAs (Decidable (_ ∧ _))

/-- The square of a difference. -/
def sqd (x y : Int) : Int := (x - y) * (x - y)

theorem spec.vec_plus {a b x y : Int} {u : H} {K : Int → Int → H → Prop} (ha : U64 a) (hb : U64 b) (hx : coordOk x) (hy : coordOk y)
    (hs : wv a b + 18446744073709551616 < 340282366920938463463374607431768211456)
    (h : ∀ c d, U64 c → U64 d → wv c d = wv a b + sqd x y → K c d u) : C.vec_plus a b x y u K := by
  apply vc.vec_plus
  have e : (ite (y > x) y x) - (ite (y < x) y x) = if x < y then y - x else x - y := by (repeat' split) <;> omega
  rw [e]
  unfold coordOk at hx hy
  have d1 : ∃ z : Int, z = (if x < y then y - x else x - y) ∧ 0 ≤ z ∧ z ≤ 4294967294 ∧ z * z = sqd x y := by
    refine ⟨_, rfl, ?_, ?_, ?_⟩
    · split <;> omega
    · split <;> omega
    · unfold sqd; split <;> grind
  obtain ⟨z, hz, h0, h2, h3⟩ := d1
  rw [← hz]
  refine ⟨⟨by omega, by omega⟩, ?_⟩
  have hw : IntKind.wrap .u64 z = z := IntWalk.u64_in z ⟨h0, by omega⟩
  rw [hw]
  have hz : U64 z := ⟨h0, by omega⟩
  refine spec.wide_Mul hz hz fun p q hp hq he => ⟨H.le.refl u, ?_⟩
  have hzz : 0 ≤ z * z ∧ z * z ≤ 18446744056529682436 := ⟨Int.mul_nonneg h0 h0, by have := Int.mul_le_mul h2 h2 h0 (by omega); omega⟩
  refine spec.wide_Add ha hb hp hq (fun c d hc hd hcd => h c d hc hd (by rw [hcd, he, h3])) fun hh => ?_
  exfalso
  omega

theorem sqd_le {x y : Int} (hx : coordOk x) (hy : coordOk y) : 0 ≤ sqd x y ∧ sqd x y ≤ 18446744056529682436 := by
  unfold coordOk at hx hy
  unfold sqd
  constructor
  · rcases Int.le_total 0 (x - y) with h | h
    · exact Int.mul_nonneg h h
    · exact Int.mul_nonneg_of_nonpos_of_nonpos h h
  · rcases Int.le_total 0 (x - y) with h | h
    · have := Int.mul_le_mul (show x - y ≤ 4294967294 by omega) (show x - y ≤ 4294967294 by omega) h (by omega); omega
    · have e : (x - y) * (x - y) = (y - x) * (y - x) := by grind
      have := Int.mul_le_mul (show y - x ≤ 4294967294 by omega) (show y - x ≤ 4294967294 by omega) (by omega) (by omega); omega

/-! ### layer 3 -/

/-- What a vector's test answers. -/
def vcheck (l : List Int) (d : Int) : Int :=
  if 1 ≤ d ∧ d ≤ 64 ∧ (l.length : Int) = d then (if ∀ i, i < l.length → coordOk (l.getD i 0) then 0 else 31) else 30

theorem spec.vec_dim {d : Int} {u : H} {K : Bool → H → Prop} (h : K (decide (1 ≤ d ∧ d ≤ 64)) u) : C.vec_dim d u K := by
  apply vc.vec_dim
  refine ⟨fun h1 => ?_, fun h1 => ?_⟩
  · have : @decide (d ≤ 64) (@inferInstance _ (Int.decLe d 64)) = decide (1 ≤ d ∧ d ≤ 64) := by simp [h1]
    rw [this]; exact h
  · have : decide (1 ≤ d ∧ d ≤ 64) = false := by simp; omega
    rw [this] at h; exact h

theorem spec.vec_Check {s : Sl} {l : List Int} {d : Int} {u : H} {K : Int → H → Prop} (hs : Ints u s l) (h : K (vcheck l d) u) : C.vec_Check s d u K := by
  have key : ∀ z, vcheck l d = z → K z u := fun z e => e ▸ h
  have hn := hs.len
  have hmx := hs.max
  apply vc.vec_Check
  intro K0 hK0
  refine spec.vec_dim ⟨fun hb => key _ ?_, fun hb => ⟨fun hl => key _ ?_, fun hl => hK0 _ _ ?_⟩⟩
  · have : ¬ (1 ≤ d ∧ d ≤ 64) := by simpa using hb
    unfold vcheck; rw [if_neg (fun h => this ⟨h.1, h.2.1⟩)]
  · unfold vcheck; rw [if_neg (fun h => hl (by rw [hn]; exact h.2.2))]
  · have hd : 1 ≤ d ∧ d ≤ 64 := by simpa using hb
    have hv : vcheck l d = if ∀ i, i < l.length → coordOk (l.getD i 0) then 0 else 31 := by unfold vcheck; rw [if_pos ⟨hd.1, hd.2, by rw [← hl, hn]⟩]
    refine ⟨fun _ i u' => u' = u ∧ 0 ≤ i ∧ i ≤ (s.n : Int) ∧ ∀ j, j < i.toNat → coordOk (l.getD j 0), fun _ i _ => s.n - i.toNat, ⟨rfl, by omega, by omega, fun j hj => by simp at hj⟩, ?_⟩
    rintro _ i u' ⟨rfl, h0, h1, hp⟩
    refine ⟨fun hi => ?_, fun hi => key _ ?_⟩
    · obtain ⟨p, hp', hc⟩ := hs.at h0 hi
      have bad : ¬ coordOk (l.getD i.toNat 0) → K 31 u' := fun hb => key _ (by rw [hv, if_neg (fun hall => hb (hall _ (by omega)))])
      refine ⟨p, hp', ⟨h0, hi⟩, _, hc, fun hx => bad (fun hb => by unfold coordOk at hb; omega), fun hx => ⟨fun hy => bad (fun hb => by unfold coordOk at hb; omega), fun hy => ⟨⟨by omega, by omega⟩, ⟨rfl, by omega, by omega, ?_⟩, by dsimp only; omega⟩⟩⟩
      intro j hj
      rcases Nat.lt_or_ge j i.toNat with hj' | hj'
      · exact hp j hj'
      · have : j = i.toNat := by omega
        subst this
        exact ⟨by omega, by omega⟩
    · rw [hv, if_pos]
      intro j hj
      exact hp j (by omega)

theorem spec.theodoliteref03_Check {s : Sl} {l : List Int} {d : Int} {u : H} {K : Int → H → Prop} (hs : Ints u s l) (h : K (vcheck l d) u) : C.theodoliteref03_Check s d u K := by
  have key : ∀ z, vcheck l d = z → K z u := fun z e => e ▸ h
  have hn := hs.len
  have hmx := hs.max
  apply vc.theodoliteref03_Check
  intro K0 hK0
  refine ⟨fun hb => key _ ?_, fun hb => ⟨fun hb2 => key _ ?_, fun hb2 => ⟨fun hl => key _ ?_, fun hl => hK0 _ _ ?_⟩⟩⟩
  · unfold vcheck; rw [if_neg (fun h => by omega)]
  · unfold vcheck; rw [if_neg (fun h => by omega)]
  · unfold vcheck; rw [if_neg (fun h => hl (by rw [hn]; exact h.2.2))]
  · have hv : vcheck l d = if ∀ i, i < l.length → coordOk (l.getD i 0) then 0 else 31 := by unfold vcheck; rw [if_pos ⟨by omega, by omega, by rw [← hl, hn]⟩]
    refine ⟨fun _ i u' => u' = u ∧ 0 ≤ i ∧ i ≤ (s.n : Int) ∧ ∀ j, j < i.toNat → coordOk (l.getD j 0), fun _ i _ => s.n - i.toNat, ⟨rfl, by omega, by omega, fun j hj => by simp at hj⟩, ?_⟩
    rintro _ i u' ⟨rfl, h0, h1, hp⟩
    refine ⟨fun hi => ?_, fun hi => key _ ?_⟩
    · obtain ⟨p, hp', hc⟩ := hs.at h0 hi
      have bad : ¬ coordOk (l.getD i.toNat 0) → K 31 u' := fun hb => key _ (by rw [hv, if_neg (fun hall => hb (hall _ (by omega)))])
      refine ⟨p, hp', ⟨h0, hi⟩, _, hc, fun hx => bad (fun hb => by unfold coordOk at hb; omega), fun hx => ⟨p, hp', ⟨h0, hi⟩, _, hc, fun hy => bad (fun hb => by unfold coordOk at hb; omega), fun hy => ⟨⟨by omega, by omega⟩, ⟨rfl, by omega, by omega, ?_⟩, by dsimp only; omega⟩⟩⟩
      intro j hj
      rcases Nat.lt_or_ge j i.toNat with hj' | hj'
      · exact hp j hj'
      · have : j = i.toNat := by omega
        subst this
        exact ⟨by omega, by omega⟩
    · rw [hv, if_pos]
      intro j hj
      exact hp j (by omega)

/-- The sum of the squares of the first n differences. -/
def sqTo (a b : List Int) : Nat → Int
  | 0 => 0
  | n + 1 => sqTo a b n + sqd (a.getD n 0) (b.getD n 0)

/-- A vector as it must be. -/
def vok (l : List Int) : Prop := l.length ≤ 64 ∧ ∀ i, i < l.length → coordOk (l.getD i 0)

theorem sqTo_le {a b : List Int} (ha : vok a) (hb : vok b) : ∀ n, n ≤ a.length → n ≤ b.length → 0 ≤ sqTo a b n ∧ sqTo a b n ≤ n * 18446744056529682436 := by
  intro n
  induction n with
  | zero => intro _ _; simp [sqTo]
  | succ n ih =>
    intro h1 h2
    obtain ⟨i1, i2⟩ := ih (by omega) (by omega)
    have := sqd_le (ha.2 n (by omega)) (hb.2 n (by omega))
    simp only [sqTo]
    constructor <;> omega

theorem spec.vec_far {s t : Sl} {a b : List Int} {u : H} {K : Int → Int → H → Prop} (hs : Ints u s a) (ht : Ints u t b) (ha : vok a) (hb : vok b) (hl : a.length = b.length)
    (h : ∀ x y, U64 x → U64 y → wv x y = sqTo a b a.length → K x y u) : C.vec_far s t u K := by
  have hn := hs.len
  have hm := ht.len
  have h64 := ha.1
  apply vc.vec_far
  refine ⟨fun i x y u' => u' = u ∧ 0 ≤ i ∧ i ≤ (s.n : Int) ∧ U64 x ∧ U64 y ∧ wv x y = sqTo a b i.toNat, fun i _ _ _ => s.n - i.toNat, ⟨rfl, by omega, by omega, ⟨by omega, by omega⟩, ⟨by omega, by omega⟩, rfl⟩, ?_⟩
  rintro i x y u' ⟨rfl, h0, h1, hx, hy, hw⟩
  refine ⟨fun hi => ?_, fun hi => ?_⟩
  · obtain ⟨p, hp, hc⟩ := hs.at h0 hi
    obtain ⟨q, hq, hd⟩ := ht.at h0 (show i < (t.n : Int) by omega)
    have hle := sqTo_le ha hb i.toNat (by omega) (by omega)
    refine ⟨p, hp, ⟨h0, hi⟩, q, hq, ⟨h0, by omega⟩, _, hc, _, hd, spec.vec_plus hx hy (ha.2 _ (by omega)) (hb.2 _ (by omega)) (by omega) fun c d hc hd hcd => ⟨⟨by omega, by omega⟩, ⟨rfl, by omega, by omega, hc, hd, ?_⟩, by dsimp only; omega⟩⟩
    rw [hcd, hw, show (i + 1).toNat = i.toNat + 1 by omega]
    rfl
  · have : i.toNat = a.length := by omega
    exact h x y hx hy (by rw [hw, this])

theorem spec.theodoliteref03_Sum {a b c d : Int} {u : H} {K : Int → Int → H → Prop} (ha : U64 a) (hb : U64 b) (hc : U64 c) (hd : U64 d) (hs : wv a b + wv c d < 340282366920938463463374607431768211456)
    (h : ∀ x y, U64 x → U64 y → wv x y = wv a b + wv c d → K x y u) : C.theodoliteref03_Sum a b c d u K := by
  apply vc.theodoliteref03_Sum
  simp only [IntKind.wrap_u64, U64, wv] at *
  exact ⟨fun hlt => h _ _ (by omega) (by omega) (by omega), fun hlt => h _ _ (by omega) (by omega) (by omega)⟩

theorem spec.theodoliteref03_Square {z : Int} {u : H} {K : Int → Int → H → Prop} (hz : -4294967294 ≤ z ∧ z ≤ 4294967294) (h : K 0 (z * z) u) : C.theodoliteref03_Square z u K := by
  apply vc.theodoliteref03_Square
  intro K0 hK0
  have key : ∀ x : Int, 0 ≤ x → x ≤ 4294967294 → x * x = z * z → K 0 (IntKind.wrap .u64 (IntKind.wrap .u64 x * IntKind.wrap .u64 x)) u := by
    intro x h0 h1 hx
    have hw : IntKind.wrap .u64 x = x := IntWalk.u64_in x ⟨h0, by omega⟩
    have hxx : 0 ≤ x * x ∧ x * x ≤ 18446744056529682436 := ⟨Int.mul_nonneg h0 h0, by have := Int.mul_le_mul h1 h1 h0 (by omega); omega⟩
    rw [hw, IntWalk.u64_in (x * x) ⟨hxx.1, by omega⟩, hx]
    exact h
  refine ⟨fun hn => hK0 _ _ ?_, fun hn => hK0 _ _ (key _ (by omega) (by omega) rfl)⟩
  rw [IntWalk.i64_in (0 - z) (by omega)]
  exact key _ (by omega) (by omega) (by grind)

theorem spec.theodoliteref03_Far {s t : Sl} {a b : List Int} {u : H} {K : Int → Int → H → Prop} (hs : Ints u s a) (ht : Ints u t b) (ha : vok a) (hb : vok b) (hl : a.length = b.length)
    (h : ∀ x y, U64 x → U64 y → wv x y = sqTo a b a.length → K x y u) : C.theodoliteref03_Far s t u K := by
  have hn := hs.len
  have hm := ht.len
  have h64 := ha.1
  apply vc.theodoliteref03_Far
  refine ⟨fun i x y u' => u' = u ∧ 0 ≤ i ∧ i ≤ (s.n : Int) ∧ U64 x ∧ U64 y ∧ wv x y = sqTo a b i.toNat, fun i _ _ _ => s.n - i.toNat, ⟨rfl, by omega, by omega, ⟨by omega, by omega⟩, ⟨by omega, by omega⟩, rfl⟩, ?_⟩
  rintro i x y u' ⟨rfl, h0, h1, hx, hy, hw⟩
  refine ⟨fun hi => ?_, fun hi => ?_⟩
  · obtain ⟨p, hp, hc⟩ := hs.at h0 hi
    obtain ⟨q, hq, hd⟩ := ht.at h0 (show i < (t.n : Int) by omega)
    have hle := sqTo_le ha hb i.toNat (by omega) (by omega)
    have c1 := ha.2 i.toNat (by omega)
    have c2 := hb.2 i.toNat (by omega)
    have hsq := sqd_le c1 c2
    unfold coordOk at c1 c2
    refine ⟨p, hp, ⟨h0, hi⟩, q, hq, ⟨h0, by omega⟩, _, hc, _, hd, ⟨by omega, by omega⟩, spec.theodoliteref03_Square (by omega) ⟨H.le.refl _, ?_⟩⟩
    have hu : U64 ((a.getD i.toNat 0 - b.getD i.toNat 0) * (a.getD i.toNat 0 - b.getD i.toNat 0)) := ⟨hsq.1, by have := hsq.2; unfold sqd at this; omega⟩
    have hwv : wv 0 ((a.getD i.toNat 0 - b.getD i.toNat 0) * (a.getD i.toNat 0 - b.getD i.toNat 0)) = sqd (a.getD i.toNat 0) (b.getD i.toNat 0) := by unfold wv sqd; omega
    refine spec.theodoliteref03_Sum hx hy ⟨by omega, by omega⟩ hu (by rw [hwv]; omega) fun c d hc hd hcd => ⟨⟨by omega, by omega⟩, ⟨rfl, by omega, by omega, hc, hd, ?_⟩, by dsimp only; omega⟩
    rw [hcd, hw, hwv, show (i + 1).toNat = i.toNat + 1 by omega]
    rfl
  · have : i.toNat = a.length := by omega
    exact h x y hx hy (by rw [hw, this])

end Go.Proofs.YtljbcihbgeiacaaGreat

/- VcHits -/
namespace Go.Proofs.YtljbcihbgeiacaaGreat

/-- A hit: an id, and a distance. -/
abbrev Hit := Int × Int

def hlt (a b : Hit) : Bool := decide (a.2 < b.2) || (decide (a.2 = b.2) && decide (a.1 < b.1))

theorem hlt_iff {a b : Hit} : hlt a b = true ↔ a.2 < b.2 ∨ (a.2 = b.2 ∧ a.1 < b.1) := by simp [hlt]
theorem hlt_not {a b : Hit} : hlt a b = false ↔ b.2 < a.2 ∨ (b.2 = a.2 ∧ b.1 ≤ a.1) := by
  rw [← Bool.not_eq_true, hlt_iff]; omega

theorem hlt_irrefl (a : Hit) : hlt a a = false := hlt_not.2 (.inr ⟨rfl, Int.le_refl _⟩)
theorem hlt_asymm {a b : Hit} (h : hlt a b = true) : hlt b a = false := by rw [hlt_iff] at h; rw [hlt_not]; omega
theorem hlt_le_trans {a b c : Hit} (h : hlt b a = false) (k : hlt c b = false) : hlt c a = false := by rw [hlt_not] at *; omega
theorem hlt_lt_trans {a b c : Hit} (h : hlt a b = true) (k : hlt b c = true) : hlt a c = true := by rw [hlt_iff] at *; omega
theorem hlt_lt_le {a b c : Hit} (h : hlt a b = true) (k : hlt c b = false) : hlt a c = true := by rw [hlt_iff] at *; rw [hlt_not] at k; omega
theorem hlt_le_lt {a b c : Hit} (h : hlt b a = false) (k : hlt b c = true) : hlt a c = true := by rw [hlt_iff] at *; rw [hlt_not] at h; omega
theorem hlt_eq {a b : Hit} (h : hlt b a = false) (k : hlt a b = false) : a = b := by
  rw [hlt_not] at *
  obtain ⟨a1, a2⟩ := a
  obtain ⟨b1, b2⟩ := b
  simp only [Prod.mk.injEq] at *
  omega

/-- In their order. -/
def Srt (l : List Hit) : Prop := l.Pairwise fun a b => hlt b a = false

theorem Srt.eq {a b : List Hit} (ha : Srt a) (hb : Srt b) (h : a.Perm b) : a = b :=
  h.eq_of_pairwise (le := fun x y => hlt y x = false) (fun _ _ _ _ h k => hlt_eq h k) ha hb

def insH (h : Hit) : List Hit → List Hit
  | [] => [h]
  | x :: l => if hlt h x then h :: x :: l else x :: insH h l

def sortH : List Hit → List Hit
  | [] => []
  | h :: l => insH h (sortH l)

theorem insH_perm (h : Hit) (l : List Hit) : (insH h l).Perm (h :: l) := by
  induction l with
  | nil => exact .refl _
  | cons x l ih =>
    simp only [insH]
    split
    · exact .refl _
    · exact ((List.Perm.cons x ih).trans (List.Perm.swap h x l))

theorem insH_srt {h : Hit} {l : List Hit} (hl : Srt l) : Srt (insH h l) := by
  induction l with
  | nil => exact List.pairwise_singleton _ _
  | cons x l ih =>
    have h1 := List.pairwise_cons.1 hl
    simp only [insH]
    split
    · rename_i hx
      refine List.pairwise_cons.2 ⟨fun y hy => ?_, hl⟩
      rcases List.mem_cons.1 hy with rfl | hy
      · exact hlt_asymm hx
      · exact hlt_le_trans (hlt_asymm hx) (h1.1 y hy)
    · rename_i hx
      refine List.pairwise_cons.2 ⟨fun y hy => ?_, ih h1.2⟩
      rcases List.mem_cons.1 ((insH_perm h l).mem_iff.1 hy) with rfl | hy
      · simpa using hx
      · exact h1.1 y hy

theorem sortH_perm (l : List Hit) : (sortH l).Perm l := by
  induction l with
  | nil => exact .refl _
  | cons x l ih => exact (insH_perm x _).trans (List.Perm.cons x ih)

theorem sortH_srt (l : List Hit) : Srt (sortH l) := by
  induction l with
  | nil => exact List.Pairwise.nil
  | cons x l ih => exact insH_srt ih

theorem sortH_eq {a b : List Hit} (h : a.Perm b) : sortH a = sortH b :=
  (sortH_srt a).eq (sortH_srt b) ((sortH_perm a).trans (h.trans (sortH_perm b).symm))

theorem sortH_of {a b : List Hit} (h : a.Perm b) (hs : Srt a) : a = sortH b := hs.eq (sortH_srt b) (h.trans (sortH_perm b).symm)

theorem sortH_len (l : List Hit) : (sortH l).length = l.length := (sortH_perm l).length_eq

/-- The first so many. -/
def topk (k : Nat) (l : List Hit) : List Hit := (sortH l).take k

theorem topk_srt (k : Nat) (l : List Hit) : Srt (topk k l) := List.Pairwise.sublist (List.take_sublist _ _) (sortH_srt l)
theorem topk_len (k : Nat) (l : List Hit) : (topk k l).length = min k l.length := by simp [topk, sortH_len]
theorem topk_eq {k : Nat} {a b : List Hit} (h : a.Perm b) : topk k a = topk k b := by simp only [topk, sortH_eq h]

theorem Srt.append {a b : List Hit} (h : Srt (a ++ b)) : Srt a ∧ Srt b ∧ ∀ x ∈ a, ∀ y ∈ b, hlt y x = false := List.pairwise_append.1 h

theorem insH_take (h : Hit) : ∀ (k : Nat) (l : List Hit), (insH h l).take k = (insH h (l.take k)).take k := by
  intro k l
  induction l generalizing k with
  | nil => simp
  | cons x l ih =>
    cases k with
    | zero => simp
    | succ k =>
      simp only [insH, List.take_succ_cons]
      split
      · simp only [List.take_succ_cons]
        cases k with
        | zero => simp
        | succ k => simp only [List.take_succ_cons, List.take_take]; congr 3; omega
      · simp only [List.take_succ_cons, ih k]

theorem topk_cons (k : Nat) (x : Hit) (l : List Hit) : topk k (x :: l) = topk k (x :: topk k l) := by
  have h : sortH (topk k l) = topk k l := (sortH_of (.refl _) (topk_srt k l)).symm
  show (insH x (sortH l)).take k = (insH x (sortH (topk k l))).take k
  rw [h, insH_take]
  rfl

/-- A heap's list that holds the first k: one more is offered, and there is room. -/
theorem topk_room {k : Nat} {l : List Hit} {x : Hit} (h : l.length < k) : (topk k (x :: l)).Perm (x :: l) ∧ (topk k l).Perm l := by
  have e : ∀ m : List Hit, m.length ≤ k → topk k m = sortH m := fun m hm => List.take_of_length_le (by rw [sortH_len]; exact hm)
  rw [e _ (by simp; omega), e _ (by omega)]
  exact ⟨sortH_perm _, sortH_perm _⟩

/-- No room, and not below the worst. -/
theorem topk_worse {k : Nat} {l : List Hit} {x : Hit} (hk : k ≤ l.length) (h : ∀ y ∈ topk k l, hlt x y = false) : topk k (x :: l) = topk k l := by
  show (insH x (sortH l)).take k = (sortH l).take k
  have key : ∀ (k : Nat) (s : List Hit), k ≤ s.length → (∀ y ∈ s.take k, hlt x y = false) → (insH x s).take k = s.take k := by
    intro k s
    induction s generalizing k with
    | nil => intro hk _; have : k = 0 := by simpa using hk
             subst this; simp
    | cons y s ih =>
      intro hk h
      cases k with
      | zero => simp
      | succ k =>
        have h0 := h y (by simp)
        simp only [insH, h0, Bool.false_eq_true, if_false, List.take_succ_cons]
        rw [ih k (by simpa using hk) (fun z hz => h z (by simp [hz]))]
  exact key k _ (by rw [sortH_len]; exact hk) h

/-- No room, and below the worst, which goes. -/
theorem topk_better {k : Nat} {l t : List Hit} {x m : Hit} (hp : (m :: t).Perm (topk k l)) (hm : ∀ y ∈ m :: t, hlt m y = false) (hx : hlt x m = true) (hk : (topk k l).length = k) :
    (x :: t).Perm (topk k (x :: l)) := by
  rw [topk_cons]
  have h1 : topk k (x :: topk k l) = topk k (m :: x :: t) := topk_eq ((List.Perm.cons x hp.symm).trans (List.Perm.swap _ _ _))
  have hl : t.length + 1 = k := by rw [← hk, ← hp.length_eq]; simp
  have h2 : topk k (m :: x :: t) = topk k (x :: t) := by
    refine topk_worse (by simp [hl]) fun y hy => ?_
    have : y ∈ x :: t := (sortH_perm _).mem_iff.1 (List.mem_of_mem_take hy)
    rcases List.mem_cons.1 this with rfl | h
    · exact hlt_asymm hx
    · exact hm y (by simp [h])
  rw [h1, h2]
  have e : topk k (x :: t) = sortH (x :: t) := List.take_of_length_le (by rw [sortH_len]; simp [hl])
  rw [e]
  exact (sortH_perm _).symm

end Go.Proofs.YtljbcihbgeiacaaGreat

/- VcRef -/
namespace Go.Proofs.YtljbcihbgeiacaaGreat

/-! ### what is left behind by a call that nobody needs to know of -/

theorem Step.shrink {u u' : H} {bs bs' : List Nat} {w w' : World} (h : Step u bs w u' bs' w') (k : u.le u') : Step u bs w u bs' w' :=
  ⟨h.sub.mono k, h.os, h.tape, h.output, h.drawn, h.size, h.rest, fun _ _ e => e, h.more⟩

def kF (u : H) : (ts : List CT) → Cur ts (H → Prop) → Cur ts (H → Prop)
  | [], r => fun u' => u.le u' ∧ r u
  | _ :: ts, K => fun x => kF u ts (K x)

theorem unC_kF {u u' : H} : ∀ (ts : List CT) (K : Cur ts (H → Prop)) (vs : List Value), (unC ts (kF u ts K) vs fun r => r u') → Kinds ts vs → u.le u' ∧ unC ts K vs fun r => r u := by
  intro ts
  induction ts with
  | nil => intro K vs h k; cases k; exact h
  | cons t ts ih =>
    intro K vs h k
    cases k with
    | cons x kr =>
      simp only [unC, CT.un_enc] at h ⊢
      exact ih (K x) _ h kr

theorem ClT.forget {P : Program} {f : FuncId} {args : Array Value} {ss : List Sh} {u : H} {K : Cur (ctsOf ss) (H → Prop)} (h : ClT P f args ss u (kF u (ctsOf ss) K)) : ClT P f args ss u K := by
  intro w hw
  refine (h w hw).mono ?_
  rintro e w' ⟨v, u', he, ⟨vs, hk, hv, hc⟩, hs⟩
  obtain ⟨hle, hc'⟩ := unC_kF _ _ _ hc hk
  exact ⟨v, u, he, ⟨vs, hk, hv, hc'⟩, hs.shrink hle⟩

/-! ### numbers as digits -/

def dg (x : Int) (i : Nat) : Int := x / (65536 ^ i : Nat) % 65536

theorem dg_lt (x : Int) (i : Nat) : 0 ≤ dg x i ∧ dg x i < 65536 := by unfold dg; omega

theorem spec.theodoliteref01_Cmp {a0 a1 a2 a3 a4 a5 a6 a7 b0 b1 b2 b3 b4 b5 b6 b7 : Int} {o p : Bool} {u : H} {K : Int → H → Prop}
    (h : (a7 = b7 → a6 = b6 → a5 = b5 → a4 = b4 → a3 = b3 → a2 = b2 → a1 = b1 → a0 = b0 → K 0 u)
      ∧ ((a7 < b7 ∨ a7 = b7 ∧ (a6 < b6 ∨ a6 = b6 ∧ (a5 < b5 ∨ a5 = b5 ∧ (a4 < b4 ∨ a4 = b4 ∧ (a3 < b3 ∨ a3 = b3 ∧ (a2 < b2 ∨ a2 = b2 ∧ (a1 < b1 ∨ a1 = b1 ∧ a0 < b0))))))) → K (-1) u)
      ∧ ((b7 < a7 ∨ a7 = b7 ∧ (b6 < a6 ∨ a6 = b6 ∧ (b5 < a5 ∨ a5 = b5 ∧ (b4 < a4 ∨ a4 = b4 ∧ (b3 < a3 ∨ a3 = b3 ∧ (b2 < a2 ∨ a2 = b2 ∧ (b1 < a1 ∨ a1 = b1 ∧ b0 < a0))))))) → K 1 u)) :
    C.theodoliteref01_Cmp a0 a1 a2 a3 a4 a5 a6 a7 o b0 b1 b2 b3 b4 b5 b6 b7 p u K := by
  refine ClT.forget (ss := [.one (.int .i64)]) ?_
  apply vc.theodoliteref01_Cmp
  intro n hn m hm
  have hnm : m ≠ n := fun e => by rw [e, H.ins_same] at hm; cases hm
  generalize hu' : ((u.ins n _).ins m _) = u'
  have hle : u.le u' := by subst hu'; exact (H.le_ins _ hn).trans (H.le_ins _ hm)
  have ca : ∀ j v, (#[Value.int .i64 a0, .int .i64 a1, .int .i64 a2, .int .i64 a3, .int .i64 a4, .int .i64 a5, .int .i64 a6, .int .i64 a7, .bool o] : Array Value)[j]? = some v → u'.cell? ⟨n, j, none⟩ = some v := by
    intro j v hv
    subst hu'
    exact (H.cell?_of (by rw [H.ins_other _ _ (Ne.symm hnm)]; exact H.ins_same _ _ _) j).trans hv
  have cb : ∀ j v, (#[Value.int .i64 b0, .int .i64 b1, .int .i64 b2, .int .i64 b3, .int .i64 b4, .int .i64 b5, .int .i64 b6, .int .i64 b7, .bool p] : Array Value)[j]? = some v → u'.cell? ⟨m, j, none⟩ = some v := by
    intro j v hv
    subst hu'
    exact (H.cell?_of (H.ins_same _ _ _) j).trans hv
  clear hu' hm hn
  obtain ⟨h0, h1, h2⟩ := h
  refine ⟨fun _ i v => v = u' ∧ -1 ≤ i ∧ i ≤ 7 ∧ (i < 7 → a7 = b7) ∧ (i < 6 → a6 = b6) ∧ (i < 5 → a5 = b5) ∧ (i < 4 → a4 = b4) ∧ (i < 3 → a3 = b3) ∧ (i < 2 → a2 = b2) ∧ (i < 1 → a1 = b1) ∧ (i < 0 → a0 = b0),
    fun _ i _ => (i + 1).toNat, ⟨rfl, by omega, by omega, by omega, by omega, by omega, by omega, by omega, by omega, by omega, by omega⟩, ?_⟩
  rintro _ i v ⟨rfl, l0, l1, e7, e6, e5, e4, e3, e2, e1, e0⟩
  refine ⟨fun hi => ?_, fun hi => ⟨hle, h0 (e7 (by omega)) (e6 (by omega)) (e5 (by omega)) (e4 (by omega)) (e3 (by omega)) (e2 (by omega)) (e1 (by omega)) (e0 (by omega))⟩⟩
  obtain ⟨x, y, cx, cy, k1, k2, k3⟩ : ∃ x y : Int, v.cell? ((Addr.mk n 0 none).add (i.toNat * 1)) = some (.int .i64 x) ∧ v.cell? ((Addr.mk m 0 none).add (i.toNat * 1)) = some (.int .i64 y) ∧
      (x < y → K (-1) u) ∧ (y < x → K 1 u) ∧ (x = y → -1 ≤ (i-1) ∧ (i-1) ≤ 7 ∧ ((i-1) < 7 → a7 = b7) ∧ ((i-1) < 6 → a6 = b6) ∧ ((i-1) < 5 → a5 = b5) ∧ ((i-1) < 4 → a4 = b4) ∧ ((i-1) < 3 → a3 = b3) ∧ ((i-1) < 2 → a2 = b2) ∧ ((i-1) < 1 → a1 = b1) ∧ ((i-1) < 0 → a0 = b0)) := by
    have hc : i = 0 ∨ i = 1 ∨ i = 2 ∨ i = 3 ∨ i = 4 ∨ i = 5 ∨ i = 6 ∨ i = 7 := by omega
    rcases hc with rfl | rfl | rfl | rfl | rfl | rfl | rfl | rfl
    · exact ⟨_, _, ca 0 _ rfl, cb 0 _ rfl, fun hl => h1 (by omega), fun hl => h2 (by omega), fun he => by omega⟩
    · exact ⟨_, _, ca 1 _ rfl, cb 1 _ rfl, fun hl => h1 (by omega), fun hl => h2 (by omega), fun he => by omega⟩
    · exact ⟨_, _, ca 2 _ rfl, cb 2 _ rfl, fun hl => h1 (by omega), fun hl => h2 (by omega), fun he => by omega⟩
    · exact ⟨_, _, ca 3 _ rfl, cb 3 _ rfl, fun hl => h1 (by omega), fun hl => h2 (by omega), fun he => by omega⟩
    · exact ⟨_, _, ca 4 _ rfl, cb 4 _ rfl, fun hl => h1 (by omega), fun hl => h2 (by omega), fun he => by omega⟩
    · exact ⟨_, _, ca 5 _ rfl, cb 5 _ rfl, fun hl => h1 (by omega), fun hl => h2 (by omega), fun he => by omega⟩
    · exact ⟨_, _, ca 6 _ rfl, cb 6 _ rfl, fun hl => h1 (by omega), fun hl => h2 (by omega), fun he => by omega⟩
    · exact ⟨_, _, ca 7 _ rfl, cb 7 _ rfl, fun hl => h1 (by omega), fun hl => h2 (by omega), fun he => by omega⟩
  refine ⟨by decide, ⟨hi, by omega⟩, by decide, ⟨hi, by omega⟩, x, cx, y, cy, fun hne => ⟨by decide, ⟨hi, by omega⟩, by decide, ⟨hi, by omega⟩, x, cx, y, cy, fun hl => ⟨hle, k1 hl⟩, fun hl => ⟨hle, k2 (by omega)⟩⟩,
    fun he => ⟨⟨by omega, by omega⟩, ⟨rfl, k3 he⟩, by dsimp only; omega⟩⟩

def numC (d : List Int) : Array Value := (d.map (fun x => Value.int .i64 x) ++ [Value.bool false]).toArray

theorem H.ins_ins (u : H) (n : Nat) (a b : Obj) : (u.ins n a).ins n b = u.ins n b := by
  funext x; unfold H.ins; split <;> rfl

theorem st_num {u : H} {n : Nat} {d : List Int} {T : TypeId} (hd : d.length = 8) {i : Nat} (hi : i < 8) {x : Int} {f : H → Prop} (hf : f (u.ins n (.cells (numC (d.set i x)) T (0, 0)))) :
    H.St (u.ins n (.cells (numC d) T (0, 0))) ((Addr.mk n 0 none).add (i * 1)) [.int .i64 x] f := by
  rw [Nat.mul_one, Addr.add_lit, Nat.zero_add]
  refine ⟨numC d, T, H.ins_same _ _ _, rfl, by simp [numC, hd]; omega, by simp [Value.oneCell'], ?_⟩
  rw [H.ins_ins]
  have : wr (numC d) i [.int .i64 x] = numC (d.set i x) := by
    show (numC d).setIfInBounds i (.int .i64 x) = _
    unfold numC
    simp only [List.setIfInBounds_toArray]
    rw [List.set_append_left _ _ (by simp [hd, hi]), List.map_set]
  show f (u.ins n (.cells (wr (numC d) i [.int .i64 x]) T (0, 0)))
  rw [this]; exact hf

theorem spec.theodoliteref01_Of {a b : Int} {u : H} {K : Int → Int → Int → Int → Int → Int → Int → Int → Bool → H → Prop} (ha : U64 a) (hb : U64 b)
    (h : K (dg b 0) (dg b 1) (dg b 2) (dg b 3) (dg a 0) (dg a 1) (dg a 2) (dg a 3) false u) : C.theodoliteref01_Of a b u K := by
  refine ClT.forget (ss := [.agg [.int .i64, .int .i64, .int .i64, .int .i64, .int .i64, .int .i64, .int .i64, .int .i64, .bool]]) ?_
  apply vc.theodoliteref01_Of
  intro n hn
  refine ⟨fun i x y v => 0 ≤ i ∧ i ≤ 4 ∧ x = a / (65536 ^ i.toNat : Nat) ∧ y = b / (65536 ^ i.toNat : Nat) ∧ ∃ d : List Int, d.length = 8 ∧ v = u.ins n (.cells (numC d) 140 (0, 0)) ∧ ∀ j, j < i.toNat → d[j]? = some (dg b j) ∧ d[4 + j]? = some (dg a j),
    fun i _ _ _ => (4 - i).toNat, ⟨by omega, by omega, by simp, by simp, [0, 0, 0, 0, 0, 0, 0, 0], rfl, rfl, fun j hj => by simp at hj⟩, ?_⟩
  rintro i x y v ⟨l0, l1, rfl, rfl, d, hd, rfl, hc⟩
  obtain ⟨ha0, ha1⟩ := ha
  obtain ⟨hb0, hb1⟩ := hb
  refine ⟨fun hi => ?_, fun hi => ?_⟩
  · have hp : (0 : Int) < (65536 ^ i.toNat : Nat) := Int.natCast_pos.2 (Nat.pow_pos (by decide))
    have hx0 : 0 ≤ a / (65536 ^ i.toNat : Nat) := Int.ediv_nonneg ha0 (by omega)
    have hy0 : 0 ≤ b / (65536 ^ i.toNat : Nat) := Int.ediv_nonneg hb0 (by omega)
    have hx1 : a / (65536 ^ i.toNat : Nat) ≤ a := Int.ediv_le_self _ ha0
    have hy1 : b / (65536 ^ i.toNat : Nat) ≤ b := Int.ediv_le_self _ hb0
    have hdx : a / (65536 ^ i.toNat : Nat) / 65536 = a / (65536 ^ (i + 1).toNat : Nat) := by
      rw [Int.ediv_ediv_of_nonneg (by omega), show (i + 1).toNat = i.toNat + 1 by omega, Nat.pow_succ]; rfl
    have hdy : b / (65536 ^ i.toNat : Nat) / 65536 = b / (65536 ^ (i + 1).toNat : Nat) := by
      rw [Int.ediv_ediv_of_nonneg (by omega), show (i + 1).toNat = i.toNat + 1 by omega, Nat.pow_succ]; rfl
    have ex : dg a i.toNat = a / (65536 ^ i.toNat : Nat) % 65536 := rfl
    have ey : dg b i.toNat = b / (65536 ^ i.toNat : Nat) % 65536 := rfl
    generalize a / (65536 ^ i.toNat : Nat) = x at *
    generalize b / (65536 ^ i.toNat : Nat) = y at *
    have t1 : Int.tmod y 65536 = y % 65536 := Int.tmod_eq_emod_of_nonneg hy0
    have t2 : Int.tmod x 65536 = x % 65536 := Int.tmod_eq_emod_of_nonneg hx0
    have t3 : Int.tdiv y 65536 = y / 65536 := Int.tdiv_eq_ediv_of_nonneg hy0
    have t4 : Int.tdiv x 65536 = x / 65536 := Int.tdiv_eq_ediv_of_nonneg hx0
    rw [t1, t2, t3, t4, IntWalk.i64_in (y % 65536) (by omega), IntWalk.i64_in (x % 65536) (by omega), IntWalk.u64_in (y / 65536) (by omega), IntWalk.u64_in (x / 65536) (by omega)]
    refine ⟨by decide, by decide, ⟨l0, by omega⟩, st_num hd (by omega) ⟨by decide, ⟨by omega, by omega⟩, by decide, by decide, ⟨by omega, by omega⟩, st_num (by simp [hd]) (by omega)
      ⟨by decide, ⟨by omega, by omega⟩, ⟨by omega, by omega, hdx, hdy, _, ?_, rfl, ?_⟩, by dsimp only; omega⟩⟩⟩
    · simp [hd]
    · intro j hj
      have e4 : (4 + i).toNat = 4 + i.toNat := by omega
      rw [e4]
      simp only [List.getElem?_set]
      by_cases hji : j = i.toNat
      · subst hji
        rw [if_neg (by omega), if_pos rfl, if_pos (by omega), if_pos rfl, if_pos (by simp [hd]; omega), ey, ex]
        exact ⟨rfl, rfl⟩
      · rw [if_neg (by omega), if_neg (by omega), if_neg (by omega), if_neg (by omega)]
        exact hc j (by omega)
  · have h4 : i.toNat = 4 := by omega
    rw [h4] at hc
    have g : ∀ j z, d[j]? = some z → j < 8 → ((u.ins n (.cells (numC d) 140 (0, 0))).cell? ⟨n, j, none⟩ = some (.int .i64 z)) := by
      intro j z hz hj
      rw [H.cell?_ins]
      simp [numC, List.getElem?_append, hd, hj]
      exact (List.getElem?_eq_some_iff.1 hz).2
    have c0 := hc 0 (by omega)
    have c1 := hc 1 (by omega)
    have c2 := hc 2 (by omega)
    have c3 := hc 3 (by omega)
    refine ⟨_, g 0 _ c0.1 (by omega), _, g 1 _ c1.1 (by omega), _, g 2 _ c2.1 (by omega), _, g 3 _ c3.1 (by omega), _, g 4 _ c0.2 (by omega), _, g 5 _ c1.2 (by omega), _, g 6 _ c2.2 (by omega), _, g 7 _ c3.2 (by omega), false, ?_, H.le_ins _ hn, h⟩
    show (u.ins n _).cell? ⟨n, 8, none⟩ = _
    rw [H.cell?_ins]
    simp [numC, hd]

theorem spec.theodoliteref01_Less {a b c d : Int} {u : H} {K : Bool → H → Prop} (ha : U64 a) (hb : U64 b) (hc : U64 c) (hd : U64 d) (h : K (decide (wv a b < wv c d)) u) : C.theodoliteref01_Less a b c d u K := by
  apply vc.theodoliteref01_Less
  refine spec.theodoliteref01_Of ha hb ⟨H.le.refl _, spec.theodoliteref01_Of hc hd (spec.theodoliteref01_Cmp ?_)⟩
  have key : ∀ z : Int, (z < 0 ↔ wv a b < wv c d) → K (decide (z < 0)) u := fun z hz => by
    have : decide (z < 0) = decide (wv a b < wv c d) := by simp [hz]
    rw [this]; exact h
  simp only [U64, wv, dg, Nat.reducePow] at *
  refine ⟨fun _ _ _ _ _ _ _ _ => key 0 (by omega), fun _ => key (-1) (by omega), fun _ => key 1 (by omega)⟩

end Go.Proofs.YtljbcihbgeiacaaGreat

/- VcRows -/
namespace Go.Proofs.YtljbcihbgeiacaaGreat

theorem Addr.add_zero' (p : Addr) : p.add 0 = p := rfl

/-! ### hits -/

def hiW (d : Int) : Int := d / 18446744073709551616
def loW (d : Int) : Int := d % 18446744073709551616

/-- A distance as it must be. -/
def Dok (d : Int) : Prop := 0 ≤ d ∧ d < 340282366920938463463374607431768211456

theorem wv_hl (d : Int) : wv (hiW d) (loW d) = d := by unfold wv hiW loW; omega
theorem loU (d : Int) : U64 (loW d) := by unfold U64 loW; omega
theorem hiU {d : Int} (h : Dok d) : U64 (hiW d) := by unfold Dok at h; unfold U64 hiW; omega
theorem hi_wv {x y : Int} (hy : U64 y) : hiW (wv x y) = x := by unfold U64 at hy; unfold hiW wv; omega
theorem lo_wv {x y : Int} (hy : U64 y) : loW (wv x y) = y := by unfold U64 at hy; unfold loW wv; omega
theorem Dok_wv {x y : Int} (hx : U64 x) (hy : U64 y) : Dok (wv x y) := by unfold U64 at hx hy; unfold Dok wv; omega

def encH (h : Hit) : List Value := [.int .i64 h.1, .int .u64 (hiW h.2), .int .u64 (loW h.2)]
theorem encH_len (h : Hit) : (encH h).length = 3 := rfl
theorem encH_one (h : Hit) : ∀ v ∈ encH h, v.oneCell' = true := by simp [encH, Value.oneCell']

/-- A slice of hits. -/
def Hts (u : H) (s : Sl) (l : List Hit) : Prop := Seg u s 3 (l.flatMap encH)

theorem Hts.len {u : H} {s : Sl} {l : List Hit} (h : Hts u s l) : s.n = l.length := flat_n encH_len (by decide) h
theorem Hts.max {u : H} {s : Sl} {l : List Hit} (h : Hts u s l) : s.n ≤ 9223372036854775807 := Nat.le_trans (Seg.cap h) (Seg.max h)
theorem Hts.mono {u u' : H} {s : Sl} {l : List Hit} (h : Hts u s l) (k : u.le u') : Hts u' s l := Seg.mono h k

theorem Hts.at {u : H} {s : Sl} {l : List Hit} (h : Hts u s l) {x : Int} (h0 : 0 ≤ x) (h1 : x < (s.n : Int)) : ∃ p, s.a = some p ∧ ∃ q : Hit, l[x.toNat]? = some q ∧
    u.cell? (p.add (x.toNat * 3)) = some (.int .i64 q.1) ∧ u.cell? ((p.add (x.toNat * 3)).add 1) = some (.int .u64 (hiW q.2)) ∧ u.cell? ((p.add (x.toNat * 3)).add 2) = some (.int .u64 (loW q.2)) := by
  have hn := h.len
  have hl : x.toNat < l.length := by omega
  obtain ⟨p, hp, hc⟩ := Seg.elem encH_len (by decide) h (List.getElem?_eq_getElem hl)
  exact ⟨p, hp, _, List.getElem?_eq_getElem hl, hc 0 _ rfl, hc 1 _ rfl, hc 2 _ rfl⟩

/-! ### rows -/

structure Rw where
  id : Int
  s : Sl
  v : List Int

def encR (r : Rw) : List Value := [.int .i64 r.id, .slice r.s.a r.s.n r.s.c]
theorem encR_len (r : Rw) : (encR r).length = 2 := rfl
theorem encR_one (r : Rw) : ∀ v ∈ encR r, v.oneCell' = true := by simp [encR, Value.oneCell']

def Rws (u : H) (s : Sl) (l : List Rw) : Prop := Seg u s 2 (l.flatMap encR) ∧ ∀ r ∈ l, Ints u r.s r.v

theorem Rws.len {u : H} {s : Sl} {l : List Rw} (h : Rws u s l) : s.n = l.length := flat_n encR_len (by decide) h.1
theorem Rws.max {u : H} {s : Sl} {l : List Rw} (h : Rws u s l) : s.n ≤ 9223372036854775807 := Nat.le_trans (Seg.cap h.1) (Seg.max h.1)
theorem Rws.mono {u u' : H} {s : Sl} {l : List Rw} (h : Rws u s l) (k : u.le u') : Rws u' s l := ⟨Seg.mono h.1 k, fun r hr => (h.2 r hr).mono k⟩

theorem Rws.at {u : H} {s : Sl} {l : List Rw} (h : Rws u s l) {x : Int} (h0 : 0 ≤ x) (h1 : x < (s.n : Int)) : ∃ p, s.a = some p ∧ ∃ q : Rw, l[x.toNat]? = some q ∧
    u.cell? (p.add (x.toNat * 2)) = some (.int .i64 q.id) ∧ u.cell? ((p.add (x.toNat * 2)).add 1) = some (.slice q.s.a q.s.n q.s.c) ∧ Ints u q.s q.v := by
  have hn := h.len
  have hl : x.toNat < l.length := by omega
  obtain ⟨p, hp, hc⟩ := Seg.elem encR_len (by decide) h.1 (List.getElem?_eq_getElem hl)
  exact ⟨p, hp, _, List.getElem?_eq_getElem hl, hc 0 _ rfl, hc 1 _ rfl, h.2 _ (List.getElem_mem hl)⟩

/-! ### comparisons -/

theorem spec.theodoliteref05_Before {a b : Hit} {u : H} {K : Bool → H → Prop} (ha : Dok a.2) (hb : Dok b.2) (h : K (hlt a b) u) : C.theodoliteref05_Before a.1 (hiW a.2) (loW a.2) b.1 (hiW b.2) (loW b.2) u K := by
  apply vc.theodoliteref05_Before
  have key : ∀ z, hlt a b = z → K z u := fun z e => e ▸ h
  refine ⟨fun hn => spec.theodoliteref01_Less (hiU ha) (loU _) (hiU hb) (loU _) (key _ ?_), fun he => key _ ?_⟩
  · rw [wv_hl, wv_hl]
    have : a.2 ≠ b.2 := fun e => hn (by rw [e]; exact ⟨rfl, rfl⟩)
    simp [hlt, this]
  · have : a.2 = b.2 := by rw [← wv_hl a.2, ← wv_hl b.2, he.1, he.2]
    simp [hlt, this]

theorem spec.cmp_Compare_int_ {a b : Int} {u : H} {K : Int → H → Prop} (h : K (if a < b then -1 else if b < a then 1 else 0) u) : C.cmp_Compare_int_ a b u K := by
  have key : ∀ z, (if a < b then (-1 : Int) else if b < a then 1 else 0) = z → K z u := fun z e => e ▸ h
  apply vc.cmp_Compare_int_
  apply vc.cmp_isNaN_int_
  apply vc.cmp_isNaN_int_
  simp only [decide_true, Bool.not_true]
  refine ⟨fun h => by simp at h, fun _ => ⟨fun h => by simp at h, fun _ => ⟨fun h1 => key _ (by simp [h1]), fun h1 => ⟨fun h2 => key _ (by simp [h1, h2]), fun h2 => key _ (by simp [h1, h2])⟩⟩⟩⟩

theorem spec.cmp_Or_int_ {s : Sl} {a b : Int} {u : H} {K : Int → H → Prop} (hs : Ints u s [a, b]) (h : K (if a ≠ 0 then a else b) u) : C.cmp_Or_int_ s u K := by
  have hn := hs.len
  simp only [List.length_cons, List.length_nil, Nat.zero_add, Nat.reduceAdd] at hn
  apply vc.cmp_Or_int_
  refine ⟨fun _ i v => v = u ∧ 0 ≤ i ∧ i ≤ 2 ∧ (0 < i → a = 0) ∧ (1 < i → b = 0), fun _ i _ => (2 - i).toNat, ⟨rfl, by omega, by omega, by omega, by omega⟩, ?_⟩
  rintro _ i v ⟨rfl, h0, h1, h2, h3⟩
  refine ⟨fun hi => ?_, fun hi => ?_⟩
  · obtain ⟨p, hp, hc⟩ := hs.at h0 hi
    refine ⟨p, hp, ⟨h0, hi⟩, _, hc, ?_⟩
    have hc : i = 0 ∨ i = 1 := by omega
    rcases hc with rfl | rfl
    · refine ⟨fun hne => ?_, fun he => ⟨⟨by omega, by omega⟩, ⟨rfl, by omega, by omega, fun _ => he, by omega⟩, by dsimp only; omega⟩⟩
      have hne : a ≠ 0 := hne
      rw [if_pos hne] at h; exact h
    · have ha := h2 (by omega)
      rw [if_neg (by omega)] at h
      refine ⟨fun hne => h, fun he => ⟨⟨by omega, by omega⟩, ⟨rfl, by omega, by omega, fun _ => ha, fun _ => he⟩, by dsimp only; omega⟩⟩
  · have ha := h2 (by omega)
    have hb := h3 (by omega)
    rw [if_neg (by omega), hb] at h
    exact h

theorem tInts : elemT Tryz.prog 41 = some (3, 1, 8, [.int .i64 0]) := by kernel_rfl

theorem build_ints2 (a b : Int) : buildOf Tryz.prog 41 2 #[(0, .int .i64 a), (1, .int .i64 b)] = some (3, [.int .i64 a, .int .i64 b]) := by kernel_rfl

theorem ints_made {u0 u : H} (h : u0.le u) {g : Nat} (hg : u g = none) (l : List Int) (e : TypeId) (hl : l.length ≤ 9223372036854775807) :
    Ints (u.ins g (.cells (l.map fun x => Value.int .i64 x).toArray e (0, 0))) ⟨some ⟨g, 0, none⟩, l.length, l.length⟩ l := by
  have := (OwnF.make (k := 1) h hg (cells := (l.map fun x => Value.int .i64 x).toArray) (e := e) (n := l.length) hl (by simp)).own.seg
  simpa [Ints] using this

theorem spec.topk_compare {a b : Hit} {u : H} {K : Int → H → Prop} (h : ∀ z : Int, (z < 0 ↔ hlt a b = true) → (0 < z ↔ hlt b a = true) → -1 ≤ z → z ≤ 1 → K z u) : C.topk_compare a.1 (hiW a.2) (loW a.2) b.1 (hiW b.2) (loW b.2) u K := by
  refine ClT.forget (ss := [.one (.int .i64)]) ?_
  apply vc.topk_compare
  refine spec.wide_Cmp (loU _) (loU _) ⟨H.le.refl _, spec.cmp_Compare_int_ (sem_build (build_ints2 _ _) fun g hg => ?_)⟩
  refine spec.cmp_Or_int_ (ints_made (H.le.refl u) hg [_, _] 3 (by simp)) ⟨H.le_ins _ hg, h _ ?_ ?_ ?_ ?_⟩
  · rw [wv_hl, wv_hl, hlt_iff]
    (repeat' split) <;> omega
  · rw [wv_hl, wv_hl, hlt_iff]
    (repeat' split) <;> omega
  · (repeat' split) <;> omega
  · (repeat' split) <;> omega

theorem spec.topk_Less {a b : Hit} {u : H} {K : Bool → H → Prop} (h : K (hlt a b) u) : C.topk_Less a.1 (hiW a.2) (loW a.2) b.1 (hiW b.2) (loW b.2) u K := by
  apply vc.topk_Less
  refine spec.topk_compare fun z hz _ _ _ => ?_
  have : decide (z < 0) = hlt a b := by
    cases hb : hlt a b <;> simp [hz, hb]
  rw [this]; exact h

/-! ### lists of hits compared -/

/-! ### rows as they must be -/

/-- What rows' tests answer, some ids being taken already. -/
def rchk (d : Int) : List Int → List Rw → Int
  | _, [] => 0
  | seen, r :: l => if r.id < 1 ∨ 1000000000 < r.id ∨ r.id ∈ seen then 50 else if vcheck r.v d ≠ 0 then vcheck r.v d else rchk d (seen ++ [r.id]) l

def rcheck (l : List Rw) (d : Int) : Int := if d < 1 ∨ 64 < d then 30 else if 512 < l.length then 2 else rchk d [] l

theorem rchk_step {d : Int} {l : List Rw} {i : Nat} {r : Rw} (h : l[i]? = some r) : rchk d ((l.take i).map (·.id)) (l.drop i) =
    if r.id < 1 ∨ 1000000000 < r.id ∨ r.id ∈ (l.take i).map (·.id) then 50 else if vcheck r.v d ≠ 0 then vcheck r.v d else rchk d ((l.take (i + 1)).map (·.id)) (l.drop (i + 1)) := by
  have hi : i < l.length := (List.getElem?_eq_some_iff.1 h).1
  have hr : l[i] = r := (List.getElem?_eq_some_iff.1 h).2
  rw [List.drop_eq_getElem_cons hi, hr]
  simp only [rchk]
  rw [List.take_add_one, h]
  simp

theorem spec.theodoliteref03_Id {x : Int} {u : H} {K : Bool → H → Prop} (h : K (decide (1 ≤ x ∧ x ≤ 1000000000)) u) : C.theodoliteref03_Id x u K := by
  apply vc.theodoliteref03_Id
  refine ⟨fun h1 => ?_, fun h1 => ?_⟩
  · have : decide (1 ≤ x ∧ x ≤ 1000000000) = decide (x ≤ 1000000000) := by simp [h1]
    rw [this] at h; exact h
  · have : decide (1 ≤ x ∧ x ≤ 1000000000) = false := by simp; omega
    rw [this] at h; exact h

end Go.Proofs.YtljbcihbgeiacaaGreat

/- VcHits2 -/
namespace Go.Proofs.YtljbcihbgeiacaaGreat

/-! ### checks -/

theorem setTy : SetTy Tryz.prog 184 3 4 := ⟨by kernel_rfl, by kernel_rfl, fun _ => by kernel_rfl⟩

theorem spec.flat_Check {s : Sl} {l : List Rw} {d : Int} {u : H} {K : Int → H → Prop} (hs : Rws u s l) (h : K (rcheck l d) u) : C.flat_Check s d u K := by
  have key : ∀ z, rcheck l d = z → K z u := fun z e => e ▸ h
  have hn := hs.len
  have hmx := hs.max
  refine ClT.forget (ss := [.one (.int .i64)]) ?_
  apply vc.flat_Check
  intro K0 hK0
  have hle := H.le.refl u
  refine ⟨fun h1 => ⟨hle, key _ (if_pos (.inl h1))⟩, fun h1 => ⟨fun h2 => ⟨hle, key _ (if_pos (.inr h2))⟩, fun h2 => ⟨fun h3 => ⟨hle, key _ ?_⟩, fun h3 => hK0 _ _ ?_⟩⟩⟩
  · unfold rcheck; rw [if_neg (by omega), if_pos (by omega)]
  have hr : rcheck l d = rchk d [] l := by unfold rcheck; rw [if_neg (by omega), if_neg (by omega)]
  rw [hr] at key
  clear hK0 K0
  refine sem_makeMap fun b hb hset => ?_
  refine ⟨fun _ i v => 0 ≤ i ∧ i ≤ (s.n : Int) ∧ u.le v ∧ SetOf v b ((l.take i.toNat).map (·.id)) ∧ rchk d ((l.take i.toNat).map (·.id)) (l.drop i.toNat) = rchk d [] l, fun _ i _ => s.n - i.toNat,
    ⟨by omega, by omega, H.le_ins _ hb, by simpa using hset, by simp⟩, ?_⟩
  rintro _ i v ⟨h0, hi1, hv, hset, hp⟩
  refine ⟨fun hi => ?_, fun hi => ⟨hv, key _ ?_⟩⟩
  · obtain ⟨p, hp1, r, hr', c0, c1, hiv⟩ := (hs.mono hv).at h0 hi
    rw [rchk_step hr'] at hp
    refine ⟨p, hp1, ⟨h0, hi⟩, _, c0, _, c1, fun K13 hK13 => ⟨fun h4 => ⟨hv, key _ ?_⟩, fun h4 => ⟨fun h5 => ⟨hv, key _ ?_⟩, fun h5 => sem_lookup setTy hset ⟨fun h6 => ⟨hv, key _ ?_⟩, fun h6 => hK13 _ _ ?_⟩⟩⟩⟩
    · rw [if_pos (.inl h4)] at hp; exact hp.symm
    · rw [if_pos (.inr (.inl h5))] at hp; exact hp.symm
    · rw [if_pos (.inr (.inr (by simpa using h6)))] at hp; exact hp.symm
    · have h6 : r.id ∉ (l.take i.toNat).map (·.id) := by simpa using h6
      rw [if_neg (fun h => h.elim (fun h => by omega) fun h => h.elim (fun h => by omega) fun h => h6 h)] at hp
      refine spec.vec_Check hiv ⟨fun hne => ⟨hv, key _ ?_⟩, fun he => sem_mapAdd setTy hset h6 fun v' hset' hkeep _ => ⟨⟨by omega, by omega⟩, ⟨by omega, by omega, ?_, ?_, ?_⟩, by dsimp only; omega⟩⟩
      · rw [if_pos hne] at hp; exact hp.symm
      · exact fun g o hg => hkeep g o (hv g o hg) (fun e => by rw [e, hb] at hg; cases hg)
      · rw [show (i + 1).toNat = i.toNat + 1 by omega, List.take_add_one, hr']
        simpa using hset'
      · rw [if_neg (by simpa using he)] at hp
        rw [show (i + 1).toNat = i.toNat + 1 by omega]; exact hp
  · rw [List.drop_eq_nil_of_le (by omega)] at hp
    exact hp.symm

/-- The error of a question. -/
def asked (l : List Rw) (q : List Int) : Int := if vcheck q q.length ≠ 0 then vcheck q q.length else rcheck l q.length

theorem vcheck_ok {l : List Int} {d : Int} (h : vcheck l d = 0) : 1 ≤ d ∧ d ≤ 64 ∧ (l.length : Int) = d ∧ vok l := by
  unfold vcheck at h
  split at h
  · rename_i h1
    split at h
    · rename_i h2; exact ⟨h1.1, h1.2.1, h1.2.2, by omega, h2⟩
    · cases h
  · cases h

theorem ok_vcheck {l : List Int} (h : vok l) (h1 : 1 ≤ l.length) : vcheck l l.length = 0 := by
  unfold vcheck
  rw [if_pos ⟨by omega, by have := h.1; omega, rfl⟩, if_pos h.2]

/-- Rows as they must be. -/
structure Rok (l : List Rw) (d : Int) : Prop where
  dim : 1 ≤ d ∧ d ≤ 64
  len : l.length ≤ 512
  id : ∀ r ∈ l, 1 ≤ r.id ∧ r.id ≤ 1000000000
  nodup : (l.map (·.id)).Nodup
  v : ∀ r ∈ l, (r.v.length : Int) = d ∧ vok r.v

theorem rchk_ok {d : Int} : ∀ {l : List Rw} {seen : List Int}, rchk d seen l = 0 ↔ ((∀ r ∈ l, 1 ≤ r.id ∧ r.id ≤ 1000000000 ∧ r.id ∉ seen ∧ vcheck r.v d = 0) ∧ (l.map (·.id)).Nodup) := by
  intro l
  induction l with
  | nil => intro seen; simp [rchk]
  | cons r l ih =>
    intro seen
    simp only [rchk]
    split
    · rename_i h
      refine ⟨fun h => (by cases h), fun ⟨h1, _⟩ => ?_⟩
      have := h1 r (by simp)
      exfalso
      rcases h with h | h | h
      · omega
      · omega
      · exact this.2.2.1 h
    · rename_i h
      split
      · rename_i hv
        exact ⟨fun h => absurd h hv, fun ⟨h1, _⟩ => absurd (h1 r (by simp)).2.2.2 hv⟩
      · rename_i hv
        rw [ih]
        simp only [List.mem_cons, forall_eq_or_imp, List.map_cons, List.nodup_cons, List.mem_append, List.not_mem_nil, or_false, not_or]
        constructor
        · rintro ⟨h1, h2⟩
          refine ⟨⟨⟨by omega, by omega, fun hm => h (.inr (.inr hm)), by simpa using hv⟩, fun x hx => ⟨(h1 x hx).1, (h1 x hx).2.1, (h1 x hx).2.2.1.1, (h1 x hx).2.2.2⟩⟩, ?_, h2⟩
          intro hm
          obtain ⟨x, hx, he⟩ := List.mem_map.1 hm
          exact (h1 x hx).2.2.1.2 he
        · rintro ⟨⟨_, h1⟩, h2, h3⟩
          refine ⟨fun x hx => ⟨(h1 x hx).1, (h1 x hx).2.1, ⟨(h1 x hx).2.2.1, fun he => h2 (List.mem_map.2 ⟨x, hx, he⟩)⟩, (h1 x hx).2.2.2⟩, h3⟩

theorem rcheck_ok {l : List Rw} {d : Int} : rcheck l d = 0 ↔ Rok l d := by
  unfold rcheck
  constructor
  · intro h
    split at h
    · cases h
    · split at h
      · cases h
      · rename_i h1 h2
        obtain ⟨h3, h4⟩ := rchk_ok.1 h
        exact ⟨by omega, by omega, fun r hr => ⟨(h3 r hr).1, (h3 r hr).2.1⟩, h4, fun r hr => ⟨(vcheck_ok (h3 r hr).2.2.2).2.2.1, (vcheck_ok (h3 r hr).2.2.2).2.2.2⟩⟩
  · intro h
    have := h.dim
    have := h.len
    rw [if_neg (by omega), if_neg (by omega)]
    refine rchk_ok.2 ⟨fun r hr => ⟨(h.id r hr).1, (h.id r hr).2, by simp, ?_⟩, h.nodup⟩
    obtain ⟨h1, h2⟩ := h.v r hr
    rw [← h1]
    exact ok_vcheck h2 (by omega)

/-- A question as it must be. -/
structure Qok (l : List Rw) (q : List Int) : Prop where
  vq : vok q
  rows : Rok l q.length

theorem asked_ok {l : List Rw} {q : List Int} : asked l q = 0 ↔ Qok l q := by
  unfold asked
  constructor
  · intro h
    split at h
    · rename_i hne; exact absurd h hne
    · rename_i he
      exact ⟨(vcheck_ok (by simpa using he)).2.2.2, rcheck_ok.1 h⟩
  · intro ⟨h1, h2⟩
    have hv := ok_vcheck h1 (by have := h2.dim; omega)
    rw [if_neg (by simp [hv])]
    exact rcheck_ok.2 h2

/-! ### distances -/

theorem build_two (s t : Sl) : buildOf Tryz.prog 68 2 #[(0, .slice s.a s.n s.c), (1, .slice t.a t.n t.c)] = some (41, [.slice s.a s.n s.c, .slice t.a t.n t.c]) := by kernel_rfl

theorem spec.vec_Dist {s t : Sl} {a b : List Int} {u : H} {K : Int → Int → Int → H → Prop} (hs : Ints u s a) (ht : Ints u t b) (ha : vok a) (h1 : 1 ≤ a.length) (hb : vok b) (hl : a.length = b.length)
    (h : ∀ x y, U64 x → U64 y → wv x y = sqTo a b a.length → K x y 0 u) : C.vec_Dist s t u K := by
  refine ClT.forget (ss := [.agg [.int .u64, .int .u64], .one (.int .i64)]) ?_
  apply vc.vec_Dist
  refine sem_build (build_two _ _) fun g hg => ?_
  generalize hu' : u.ins g _ = u'
  have hle : u.le u' := by subst hu'; exact H.le_ins _ hg
  have c : ∀ j v, (#[Value.slice s.a s.n s.c, Value.slice t.a t.n t.c] : Array Value)[j]? = some v → u'.cell? ⟨g, j, none⟩ = some v := by
    intro j v hv
    subst hu'
    exact (H.cell?_of (H.ins_same _ _ _) j).trans hv
  clear hu' hg
  refine ⟨fun _ i _ _ v => v = u' ∧ 0 ≤ i ∧ i ≤ 2, fun _ i _ _ _ => (2 - i).toNat, ⟨rfl, by omega, by omega⟩, ?_⟩
  rintro _ i _ _ v ⟨rfl, l0, l1⟩
  rw [show (s.n : Int) = (a.length : Int) by rw [hs.len]]
  have va := ok_vcheck ha h1
  have vb : vcheck b a.length = 0 := by rw [hl]; exact ok_vcheck hb (by omega)
  refine ⟨fun hi => ⟨_, rfl, ⟨l0, hi⟩, ?_⟩, fun hi => spec.vec_far (hs.mono hle) (ht.mono hle) ha hb hl fun x y hx hy hw => ⟨hle, h x y hx hy hw⟩⟩
  have hi : i < 2 := hi
  have hc : i = 0 ∨ i = 1 := by omega
  rcases hc with rfl | rfl
  · refine ⟨s, c 0 _ rfl, spec.vec_Check (hs.mono hle) ⟨fun hne => absurd va hne, fun _ => ⟨⟨by omega, by omega⟩, ⟨rfl, by omega, by omega⟩, by dsimp only; omega⟩⟩⟩
  · refine ⟨t, c 1 _ rfl, spec.vec_Check (ht.mono hle) ⟨fun hne => absurd vb hne, fun _ => ⟨⟨by omega, by omega⟩, ⟨rfl, by omega, by omega⟩, by dsimp only; omega⟩⟩⟩

theorem sqTo_ok {a b : List Int} (ha : vok a) (hb : vok b) (hl : a.length = b.length) : Dok (sqTo a b a.length) := by
  have := sqTo_le ha hb a.length (by omega) (by omega)
  have := ha.1
  unfold Dok
  constructor <;> omega

/-- A row's hit. -/
def hitOf (q : List Int) (r : Rw) : Hit := (r.id, sqTo r.v q r.v.length)

end Go.Proofs.YtljbcihbgeiacaaGreat
