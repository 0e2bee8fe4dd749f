/- Texts of mine, joined by merge.py: VcF1, VcWide, VcHits, VcRef, VcRows, VcHits2, VcHits3, VcHeapPure, VcHeap, VcShelf. -/
import Derived.Test.YtncninpdlpemgaaGreatMrb3
import Derived.Shelf.SlSortCmp.WholeK
import Derived.Shelf.SlSortCmp.Whole1
import Derived.Shelf.SortG.Plain
import Derived.Shelf.SortG.SortNone
import Derived.Shelf.SlGeneric
import Derived.Test.YtncninpdlpemgaaGreatProg
set_option maxRecDepth 100000

/- VcF1 -/
set_option linter.all false
namespace Go.Proofs.YtncninpdlpemgaaGreat
theorem vc.slices_symMergeCmpFunc_api_Row_ (a0 : Sl) (a1 : Int) (a2 : Int) (a3 : Int) (a4 : Value) (u : H) (K : H → Prop) (h : (InR (a2 - a1)) ∧ ((((a2 - a1) = 1) → ∃ I0 : (Int → (Int → (H → Prop))), ∃ I1 : (Int → (Int → (H → Nat))), (I0 a2 a3 u) ∧ (∀ x2 : Int, ∀ x3 : Int, ∀ u4 : H, (I0 x2 x3 u4) → ((x2 < x3) → (InR (x2 + x3)) ∧ (((0 : Int) ≤ 1) ∧ (∃ r5 : Addr, (a0.a = (some r5)) ∧ ((((0 : Int) ≤ (IntKind.wrap IntKind.i64 (Int.fdiv (IntKind.wrap IntKind.u64 (x2 + x3)) (2 ^ 1)))) ∧ ((IntKind.wrap IntKind.i64 (Int.fdiv (IntKind.wrap IntKind.u64 (x2 + x3)) (2 ^ 1))) < (a0.n : Int))) ∧ (∃ r6 : Addr, (a0.a = (some r6)) ∧ ((((0 : Int) ≤ a1) ∧ (a1 < (a0.n : Int))) ∧ (∃ x7 : Int, ((H.cell? u4 (Addr.add r5 ((Int.toNat (IntKind.wrap IntKind.i64 (Int.fdiv (IntKind.wrap IntKind.u64 (x2 + x3)) (2 ^ 1)))) * 2))) = (some (Value.int IntKind.i64 x7))) ∧ (∃ s8 : Sl, ((H.cell? u4 (Addr.add (Addr.add r5 ((Int.toNat (IntKind.wrap IntKind.i64 (Int.fdiv (IntKind.wrap IntKind.u64 (x2 + x3)) (2 ^ 1)))) * 2)) 1)) = (some (Value.slice s8.a s8.n s8.c))) ∧ (∃ x9 : Int, ((H.cell? u4 (Addr.add r6 ((Int.toNat a1) * 2))) = (some (Value.int IntKind.i64 x9))) ∧ (∃ s10 : Sl, ((H.cell? u4 (Addr.add (Addr.add r6 ((Int.toNat a1) * 2)) 1)) = (some (Value.slice s10.a s10.n s10.c))) ∧ (ClV Tryz.prog a4 #[(Value.agg #[(Value.int IntKind.i64 x7), (Value.slice s8.a s8.n s8.c)]), (Value.agg #[(Value.int IntKind.i64 x9), (Value.slice s10.a s10.n s10.c)])] [(Sh.one (CT.int IntKind.i64))] u4 (fun (x11 : Int) (u12 : H) => ((x11 < 0) → (InR ((IntKind.wrap IntKind.i64 (Int.fdiv (IntKind.wrap IntKind.u64 (x2 + x3)) (2 ^ 1))) + 1)) ∧ ((I0 ((IntKind.wrap IntKind.i64 (Int.fdiv (IntKind.wrap IntKind.u64 (x2 + x3)) (2 ^ 1))) + 1) x3 u12) ∧ ((I1 ((IntKind.wrap IntKind.i64 (Int.fdiv (IntKind.wrap IntKind.u64 (x2 + x3)) (2 ^ 1))) + 1) x3 u12) < (I1 x2 x3 u4)))) ∧ ((¬ (x11 < 0)) → (I0 x2 (IntKind.wrap IntKind.i64 (Int.fdiv (IntKind.wrap IntKind.u64 (x2 + x3)) (2 ^ 1))) u12) ∧ ((I1 x2 (IntKind.wrap IntKind.i64 (Int.fdiv (IntKind.wrap IntKind.u64 (x2 + x3)) (2 ^ 1))) u12) < (I1 x2 x3 u4))))))))))))))) ∧ ((¬ (x2 < x3)) → ∃ I13 : (Int → (H → Prop)), ∃ I14 : (Int → (H → Nat)), (I13 a1 u4) ∧ (∀ x15 : Int, ∀ u16 : H, (I13 x15 u16) → (InR (x2 - 1)) ∧ (((x15 < (x2 - 1)) → (InR (x15 + 1)) ∧ ((InR (x15 + 1)) ∧ (∃ r17 : Addr, (a0.a = (some r17)) ∧ ((((0 : Int) ≤ (x15 + 1)) ∧ ((x15 + 1) < (a0.n : Int))) ∧ (∃ r18 : Addr, (a0.a = (some r18)) ∧ ((((0 : Int) ≤ x15) ∧ (x15 < (a0.n : Int))) ∧ (∃ x19 : Int, ((H.cell? u16 (Addr.add r17 ((Int.toNat (x15 + 1)) * 2))) = (some (Value.int IntKind.i64 x19))) ∧ (∃ s20 : Sl, ((H.cell? u16 (Addr.add (Addr.add r17 ((Int.toNat (x15 + 1)) * 2)) 1)) = (some (Value.slice s20.a s20.n s20.c))) ∧ (∃ x21 : Int, ((H.cell? u16 (Addr.add r18 ((Int.toNat x15) * 2))) = (some (Value.int IntKind.i64 x21))) ∧ (∃ s22 : Sl, ((H.cell? u16 (Addr.add (Addr.add r18 ((Int.toNat x15) * 2)) 1)) = (some (Value.slice s22.a s22.n s22.c))) ∧ (∃ r23 : Addr, (a0.a = (some r23)) ∧ ((((0 : Int) ≤ x15) ∧ (x15 < (a0.n : Int))) ∧ (H.St u16 (Addr.add r23 ((Int.toNat x15) * 2)) [(Value.int IntKind.i64 x19), (Value.slice s20.a s20.n s20.c)] (fun (u24 : H) => ∃ r25 : Addr, (a0.a = (some r25)) ∧ ((((0 : Int) ≤ (x15 + 1)) ∧ ((x15 + 1) < (a0.n : Int))) ∧ (H.St u24 (Addr.add r25 ((Int.toNat (x15 + 1)) * 2)) [(Value.int IntKind.i64 x21), (Value.slice s22.a s22.n s22.c)] (fun (u26 : H) => (InR (x15 + 1)) ∧ ((I13 (x15 + 1) u26) ∧ ((I14 (x15 + 1) u26) < (I14 x15 u16)))))))))))))))))))) ∧ ((¬ (x15 < (x2 - 1))) → K u16)))))) ∧ ((¬ ((a2 - a1) = 1)) → (InR (a3 - a2)) ∧ ((((a3 - a2) = 1) → ∃ I27 : (Int → (Int → (H → Prop))), ∃ I28 : (Int → (Int → (H → Nat))), (I27 a1 a2 u) ∧ (∀ x29 : Int, ∀ x30 : Int, ∀ u31 : H, (I27 x29 x30 u31) → ((x29 < x30) → (InR (x29 + x30)) ∧ (((0 : Int) ≤ 1) ∧ (∃ r32 : Addr, (a0.a = (some r32)) ∧ ((((0 : Int) ≤ a2) ∧ (a2 < (a0.n : Int))) ∧ (∃ r33 : Addr, (a0.a = (some r33)) ∧ ((((0 : Int) ≤ (IntKind.wrap IntKind.i64 (Int.fdiv (IntKind.wrap IntKind.u64 (x29 + x30)) (2 ^ 1)))) ∧ ((IntKind.wrap IntKind.i64 (Int.fdiv (IntKind.wrap IntKind.u64 (x29 + x30)) (2 ^ 1))) < (a0.n : Int))) ∧ (∃ x34 : Int, ((H.cell? u31 (Addr.add r32 ((Int.toNat a2) * 2))) = (some (Value.int IntKind.i64 x34))) ∧ (∃ s35 : Sl, ((H.cell? u31 (Addr.add (Addr.add r32 ((Int.toNat a2) * 2)) 1)) = (some (Value.slice s35.a s35.n s35.c))) ∧ (∃ x36 : Int, ((H.cell? u31 (Addr.add r33 ((Int.toNat (IntKind.wrap IntKind.i64 (Int.fdiv (IntKind.wrap IntKind.u64 (x29 + x30)) (2 ^ 1)))) * 2))) = (some (Value.int IntKind.i64 x36))) ∧ (∃ s37 : Sl, ((H.cell? u31 (Addr.add (Addr.add r33 ((Int.toNat (IntKind.wrap IntKind.i64 (Int.fdiv (IntKind.wrap IntKind.u64 (x29 + x30)) (2 ^ 1)))) * 2)) 1)) = (some (Value.slice s37.a s37.n s37.c))) ∧ (ClV Tryz.prog a4 #[(Value.agg #[(Value.int IntKind.i64 x34), (Value.slice s35.a s35.n s35.c)]), (Value.agg #[(Value.int IntKind.i64 x36), (Value.slice s37.a s37.n s37.c)])] [(Sh.one (CT.int IntKind.i64))] u31 (fun (x38 : Int) (u39 : H) => ((¬ (x38 < 0)) → (InR ((IntKind.wrap IntKind.i64 (Int.fdiv (IntKind.wrap IntKind.u64 (x29 + x30)) (2 ^ 1))) + 1)) ∧ ((I27 ((IntKind.wrap IntKind.i64 (Int.fdiv (IntKind.wrap IntKind.u64 (x29 + x30)) (2 ^ 1))) + 1) x30 u39) ∧ ((I28 ((IntKind.wrap IntKind.i64 (Int.fdiv (IntKind.wrap IntKind.u64 (x29 + x30)) (2 ^ 1))) + 1) x30 u39) < (I28 x29 x30 u31)))) ∧ ((x38 < 0) → (I27 x29 (IntKind.wrap IntKind.i64 (Int.fdiv (IntKind.wrap IntKind.u64 (x29 + x30)) (2 ^ 1))) u39) ∧ ((I28 x29 (IntKind.wrap IntKind.i64 (Int.fdiv (IntKind.wrap IntKind.u64 (x29 + x30)) (2 ^ 1))) u39) < (I28 x29 x30 u31))))))))))))))) ∧ ((¬ (x29 < x30)) → ∃ I40 : (Int → (H → Prop)), ∃ I41 : (Int → (H → Nat)), (I40 a2 u31) ∧ (∀ x42 : Int, ∀ u43 : H, (I40 x42 u43) → ((x29 < x42) → (InR (x42 - 1)) ∧ ((InR (x42 - 1)) ∧ (∃ r44 : Addr, (a0.a = (some r44)) ∧ ((((0 : Int) ≤ (x42 - 1)) ∧ ((x42 - 1) < (a0.n : Int))) ∧ (∃ r45 : Addr, (a0.a = (some r45)) ∧ ((((0 : Int) ≤ x42) ∧ (x42 < (a0.n : Int))) ∧ (∃ x46 : Int, ((H.cell? u43 (Addr.add r44 ((Int.toNat (x42 - 1)) * 2))) = (some (Value.int IntKind.i64 x46))) ∧ (∃ s47 : Sl, ((H.cell? u43 (Addr.add (Addr.add r44 ((Int.toNat (x42 - 1)) * 2)) 1)) = (some (Value.slice s47.a s47.n s47.c))) ∧ (∃ x48 : Int, ((H.cell? u43 (Addr.add r45 ((Int.toNat x42) * 2))) = (some (Value.int IntKind.i64 x48))) ∧ (∃ s49 : Sl, ((H.cell? u43 (Addr.add (Addr.add r45 ((Int.toNat x42) * 2)) 1)) = (some (Value.slice s49.a s49.n s49.c))) ∧ (∃ r50 : Addr, (a0.a = (some r50)) ∧ ((((0 : Int) ≤ x42) ∧ (x42 < (a0.n : Int))) ∧ (H.St u43 (Addr.add r50 ((Int.toNat x42) * 2)) [(Value.int IntKind.i64 x46), (Value.slice s47.a s47.n s47.c)] (fun (u51 : H) => ∃ r52 : Addr, (a0.a = (some r52)) ∧ ((((0 : Int) ≤ (x42 - 1)) ∧ ((x42 - 1) < (a0.n : Int))) ∧ (H.St u51 (Addr.add r52 ((Int.toNat (x42 - 1)) * 2)) [(Value.int IntKind.i64 x48), (Value.slice s49.a s49.n s49.c)] (fun (u53 : H) => (InR (x42 - 1)) ∧ ((I40 (x42 - 1) u53) ∧ ((I41 (x42 - 1) u53) < (I41 x42 u43)))))))))))))))))))) ∧ ((¬ (x29 < x42)) → K u43))))) ∧ ((¬ ((a3 - a2) = 1)) → (InR (a1 + a3)) ∧ (((0 : Int) ≤ 1) ∧ ((InR ((IntKind.wrap IntKind.i64 (Int.fdiv (IntKind.wrap IntKind.u64 (a1 + a3)) (2 ^ 1))) + a2)) ∧ (∀ K54 : (Int → (Int → (H → Prop))), (∀ x55 : Int, ∀ x56 : Int, ∀ u57 : H, ((InR (((IntKind.wrap IntKind.i64 (Int.fdiv (IntKind.wrap IntKind.u64 (a1 + a3)) (2 ^ 1))) + a2) - 1)) ∧ (∃ I58 : (Int → (Int → (H → Prop))), ∃ I59 : (Int → (Int → (H → Nat))), (I58 x55 x56 u57) ∧ (∀ x60 : Int, ∀ x61 : Int, ∀ u62 : H, (I58 x60 x61 u62) → ((x60 < x61) → (InR (x60 + x61)) ∧ (((0 : Int) ≤ 1) ∧ ((InR ((((IntKind.wrap IntKind.i64 (Int.fdiv (IntKind.wrap IntKind.u64 (a1 + a3)) (2 ^ 1))) + a2) - 1) - (IntKind.wrap IntKind.i64 (Int.fdiv (IntKind.wrap IntKind.u64 (x60 + x61)) (2 ^ 1))))) ∧ (∃ r63 : Addr, (a0.a = (some r63)) ∧ ((((0 : Int) ≤ ((((IntKind.wrap IntKind.i64 (Int.fdiv (IntKind.wrap IntKind.u64 (a1 + a3)) (2 ^ 1))) + a2) - 1) - (IntKind.wrap IntKind.i64 (Int.fdiv (IntKind.wrap IntKind.u64 (x60 + x61)) (2 ^ 1))))) ∧ (((((IntKind.wrap IntKind.i64 (Int.fdiv (IntKind.wrap IntKind.u64 (a1 + a3)) (2 ^ 1))) + a2) - 1) - (IntKind.wrap IntKind.i64 (Int.fdiv (IntKind.wrap IntKind.u64 (x60 + x61)) (2 ^ 1)))) < (a0.n : Int))) ∧ (∃ r64 : Addr, (a0.a = (some r64)) ∧ ((((0 : Int) ≤ (IntKind.wrap IntKind.i64 (Int.fdiv (IntKind.wrap IntKind.u64 (x60 + x61)) (2 ^ 1)))) ∧ ((IntKind.wrap IntKind.i64 (Int.fdiv (IntKind.wrap IntKind.u64 (x60 + x61)) (2 ^ 1))) < (a0.n : Int))) ∧ (∃ x65 : Int, ((H.cell? u62 (Addr.add r63 ((Int.toNat ((((IntKind.wrap IntKind.i64 (Int.fdiv (IntKind.wrap IntKind.u64 (a1 + a3)) (2 ^ 1))) + a2) - 1) - (IntKind.wrap IntKind.i64 (Int.fdiv (IntKind.wrap IntKind.u64 (x60 + x61)) (2 ^ 1))))) * 2))) = (some (Value.int IntKind.i64 x65))) ∧ (∃ s66 : Sl, ((H.cell? u62 (Addr.add (Addr.add r63 ((Int.toNat ((((IntKind.wrap IntKind.i64 (Int.fdiv (IntKind.wrap IntKind.u64 (a1 + a3)) (2 ^ 1))) + a2) - 1) - (IntKind.wrap IntKind.i64 (Int.fdiv (IntKind.wrap IntKind.u64 (x60 + x61)) (2 ^ 1))))) * 2)) 1)) = (some (Value.slice s66.a s66.n s66.c))) ∧ (∃ x67 : Int, ((H.cell? u62 (Addr.add r64 ((Int.toNat (IntKind.wrap IntKind.i64 (Int.fdiv (IntKind.wrap IntKind.u64 (x60 + x61)) (2 ^ 1)))) * 2))) = (some (Value.int IntKind.i64 x67))) ∧ (∃ s68 : Sl, ((H.cell? u62 (Addr.add (Addr.add r64 ((Int.toNat (IntKind.wrap IntKind.i64 (Int.fdiv (IntKind.wrap IntKind.u64 (x60 + x61)) (2 ^ 1)))) * 2)) 1)) = (some (Value.slice s68.a s68.n s68.c))) ∧ (ClV Tryz.prog a4 #[(Value.agg #[(Value.int IntKind.i64 x65), (Value.slice s66.a s66.n s66.c)]), (Value.agg #[(Value.int IntKind.i64 x67), (Value.slice s68.a s68.n s68.c)])] [(Sh.one (CT.int IntKind.i64))] u62 (fun (x69 : Int) (u70 : H) => ((¬ (x69 < 0)) → (InR ((IntKind.wrap IntKind.i64 (Int.fdiv (IntKind.wrap IntKind.u64 (x60 + x61)) (2 ^ 1))) + 1)) ∧ ((I58 ((IntKind.wrap IntKind.i64 (Int.fdiv (IntKind.wrap IntKind.u64 (x60 + x61)) (2 ^ 1))) + 1) x61 u70) ∧ ((I59 ((IntKind.wrap IntKind.i64 (Int.fdiv (IntKind.wrap IntKind.u64 (x60 + x61)) (2 ^ 1))) + 1) x61 u70) < (I59 x60 x61 u62)))) ∧ ((x69 < 0) → (I58 x60 (IntKind.wrap IntKind.i64 (Int.fdiv (IntKind.wrap IntKind.u64 (x60 + x61)) (2 ^ 1))) u70) ∧ ((I59 x60 (IntKind.wrap IntKind.i64 (Int.fdiv (IntKind.wrap IntKind.u64 (x60 + x61)) (2 ^ 1))) u70) < (I59 x60 x61 u62)))))))))))))))) ∧ ((¬ (x60 < x61)) → (InR (((IntKind.wrap IntKind.i64 (Int.fdiv (IntKind.wrap IntKind.u64 (a1 + a3)) (2 ^ 1))) + a2) - x60)) ∧ (∀ K71 : (H → Prop), (∀ u72 : H, (∀ K73 : (H → Prop), (∀ u74 : H, ((((IntKind.wrap IntKind.i64 (Int.fdiv (IntKind.wrap IntKind.u64 (a1 + a3)) (2 ^ 1))) < (((IntKind.wrap IntKind.i64 (Int.fdiv (IntKind.wrap IntKind.u64 (a1 + a3)) (2 ^ 1))) + a2) - x60)) → (((((IntKind.wrap IntKind.i64 (Int.fdiv (IntKind.wrap IntKind.u64 (a1 + a3)) (2 ^ 1))) + a2) - x60) < a3) → C.slices_symMergeCmpFunc_api_Row_ a0 (IntKind.wrap IntKind.i64 (Int.fdiv (IntKind.wrap IntKind.u64 (a1 + a3)) (2 ^ 1))) (((IntKind.wrap IntKind.i64 (Int.fdiv (IntKind.wrap IntKind.u64 (a1 + a3)) (2 ^ 1))) + a2) - x60) a3 a4 u74 (fun (u75 : H) => K u75)) ∧ ((¬ ((((IntKind.wrap IntKind.i64 (Int.fdiv (IntKind.wrap IntKind.u64 (a1 + a3)) (2 ^ 1))) + a2) - x60) < a3)) → K u74)) ∧ ((¬ ((IntKind.wrap IntKind.i64 (Int.fdiv (IntKind.wrap IntKind.u64 (a1 + a3)) (2 ^ 1))) < (((IntKind.wrap IntKind.i64 (Int.fdiv (IntKind.wrap IntKind.u64 (a1 + a3)) (2 ^ 1))) + a2) - x60))) → K u74)) → K73 u74) → ((a1 < x60) → ((x60 < (IntKind.wrap IntKind.i64 (Int.fdiv (IntKind.wrap IntKind.u64 (a1 + a3)) (2 ^ 1)))) → C.slices_symMergeCmpFunc_api_Row_ a0 a1 x60 (IntKind.wrap IntKind.i64 (Int.fdiv (IntKind.wrap IntKind.u64 (a1 + a3)) (2 ^ 1))) a4 u72 (fun (u76 : H) => K73 u76)) ∧ ((¬ (x60 < (IntKind.wrap IntKind.i64 (Int.fdiv (IntKind.wrap IntKind.u64 (a1 + a3)) (2 ^ 1))))) → K73 u72)) ∧ ((¬ (a1 < x60)) → K73 u72)) → K71 u72) → ((x60 < a2) → ((a2 < (((IntKind.wrap IntKind.i64 (Int.fdiv (IntKind.wrap IntKind.u64 (a1 + a3)) (2 ^ 1))) + a2) - x60)) → C.slices_rotateCmpFunc_api_Row_ a0 x60 a2 (((IntKind.wrap IntKind.i64 (Int.fdiv (IntKind.wrap IntKind.u64 (a1 + a3)) (2 ^ 1))) + a2) - x60) a4 u62 (fun (u77 : H) => K71 u77)) ∧ ((¬ (a2 < (((IntKind.wrap IntKind.i64 (Int.fdiv (IntKind.wrap IntKind.u64 (a1 + a3)) (2 ^ 1))) + a2) - x60))) → K71 u62)) ∧ ((¬ (x60 < a2)) → K71 u62)))))) → K54 x55 x56 u57) → (((IntKind.wrap IntKind.i64 (Int.fdiv (IntKind.wrap IntKind.u64 (a1 + a3)) (2 ^ 1))) < a2) → (InR (((IntKind.wrap IntKind.i64 (Int.fdiv (IntKind.wrap IntKind.u64 (a1 + a3)) (2 ^ 1))) + a2) - a3)) ∧ (K54 (((IntKind.wrap IntKind.i64 (Int.fdiv (IntKind.wrap IntKind.u64 (a1 + a3)) (2 ^ 1))) + a2) - a3) (IntKind.wrap IntKind.i64 (Int.fdiv (IntKind.wrap IntKind.u64 (a1 + a3)) (2 ^ 1))) u)) ∧ ((¬ ((IntKind.wrap IntKind.i64 (Int.fdiv (IntKind.wrap IntKind.u64 (a1 + a3)) (2 ^ 1))) < a2)) → K54 a1 a2 u))))))))) : C.slices_symMergeCmpFunc_api_Row_ a0 a1 a2 a3 a4 u K :=
  fn_sound' (C := { P := Tryz.prog, exp := [], wrap := false, eqT := eqT, ent := [], nxt := [] }) (args := [(Value.slice a0.a a0.n a0.c), (Value.int IntKind.i64 a1), (Value.int IntKind.i64 a2), (Value.int IntKind.i64 a3), a4]) (good _ _) Tryz.func132 (by kernel_rfl) [(172, ⟨[(10, .int .i64), (11, .int .i64)], []⟩), (698, ⟨[(13, .int .i64)], []⟩), (428, ⟨[(14, .int .i64), (15, .int .i64)], []⟩), (1722, ⟨[(17, .int .i64)], []⟩), (63, ⟨[(20, .int .i64), (21, .int .i64)], []⟩), (1020, ⟨[(20, .int .i64), (21, .int .i64)], []⟩), (1023, ⟨[], []⟩), (2047, ⟨[], []⟩)] (by kernel_rfl) (by kernel_rfl) (Eq.mp (by kernel_rfl) h)
theorem vc.topk_Heap__Len (a0 : (Option Addr)) (u : H) (K : Int → H → Prop) (h : ((a0 = none) → K 0 u) ∧ ((¬ (a0 = none)) → ∃ r0 : Addr, (a0 = (some r0)) ∧ (∃ s1 : Sl, ((H.cell? u (Addr.add r0 1)) = (some (Value.slice s1.a s1.n s1.c))) ∧ (K (s1.n : Int) u)))) : C.topk_Heap__Len a0 u K :=
  fn_sound' (C := { P := Tryz.prog, exp := [], wrap := false, eqT := eqT, ent := [], nxt := [] }) (args := [(Value.pointer a0)]) (good _ _) Tryz.func134 (by kernel_rfl) [] (by kernel_rfl) (by kernel_rfl) (Eq.mp (by kernel_rfl) h)
theorem vc.cmp_isNaN_int_ (a0 : Int) (u : H) (K : Bool → H → Prop) (h : K (Bool.not (@decide (a0 = a0) (@inferInstance (@Decidable (@Eq @Int a0 a0)) (@Int.instDecidableEq a0 a0)))) u) : C.cmp_isNaN_int_ a0 u K :=
  fn_sound' (C := { P := Tryz.prog, exp := [], wrap := false, eqT := eqT, ent := [], nxt := [] }) (args := [(Value.int IntKind.i64 a0)]) (good _ _) Tryz.func153 (by kernel_rfl) [] (by kernel_rfl) (by kernel_rfl) (Eq.mp (by kernel_rfl) h)
theorem vc.theodoliteref01_Num__plus (a0_0 : Int) (a0_1 : Int) (a0_2 : Int) (a0_3 : Int) (a0_4 : Int) (a0_5 : Int) (a0_6 : Int) (a0_7 : Int) (a0_8 : Bool) (a1 : Int) (a2 : Int) (u : H) (K : Int → Int → Int → Int → Int → Int → Int → Int → Bool → H → Prop) (h : ∀ n0 : Nat, ((u n0) = none) → ∃ I1 : (Int → (Int → (Int → (Int → (Int → (Int → (Int → (Int → (Int → (Int → (Bool → (H → Prop)))))))))))), ∃ I2 : (Int → (Int → (Int → (Int → (Int → (Int → (Int → (Int → (Int → (Int → (Bool → (H → Nat)))))))))))), (I1 a2 a1 0 0 0 0 0 0 0 0 Bool.false (u.ins n0 (Go.Obj.cells #[(Value.int IntKind.i64 a0_0), (Value.int IntKind.i64 a0_1), (Value.int IntKind.i64 a0_2), (Value.int IntKind.i64 a0_3), (Value.int IntKind.i64 a0_4), (Value.int IntKind.i64 a0_5), (Value.int IntKind.i64 a0_6), (Value.int IntKind.i64 a0_7), (Value.bool a0_8)] 141 (0, 0)))) ∧ (∀ x3 : Int, ∀ x4 : Int, ∀ x5 : Int, ∀ x6 : Int, ∀ x7 : Int, ∀ x8 : Int, ∀ x9 : Int, ∀ x10 : Int, ∀ x11 : Int, ∀ x12 : Int, ∀ b13 : Bool, ∀ u14 : H, (I1 x3 x4 x5 x6 x7 x8 x9 x10 x11 x12 b13 u14) → (((0 : Int) < x3) → (((8 : Int) ≤ x4) → H.St u14 (Addr.add (Addr.mk n0 0 none) 8) [(Value.bool Bool.true)] (fun (u15 : H) => ∃ x16 : Int, ((H.cell? u15 (Addr.mk n0 0 none)) = (some (Value.int IntKind.i64 x16))) ∧ (∃ x17 : Int, ((H.cell? u15 (Addr.add (Addr.mk n0 0 none) 1)) = (some (Value.int IntKind.i64 x17))) ∧ (∃ x18 : Int, ((H.cell? u15 (Addr.add (Addr.mk n0 0 none) 2)) = (some (Value.int IntKind.i64 x18))) ∧ (∃ x19 : Int, ((H.cell? u15 (Addr.add (Addr.mk n0 0 none) 3)) = (some (Value.int IntKind.i64 x19))) ∧ (∃ x20 : Int, ((H.cell? u15 (Addr.add (Addr.mk n0 0 none) 4)) = (some (Value.int IntKind.i64 x20))) ∧ (∃ x21 : Int, ((H.cell? u15 (Addr.add (Addr.mk n0 0 none) 5)) = (some (Value.int IntKind.i64 x21))) ∧ (∃ x22 : Int, ((H.cell? u15 (Addr.add (Addr.mk n0 0 none) 6)) = (some (Value.int IntKind.i64 x22))) ∧ (∃ x23 : Int, ((H.cell? u15 (Addr.add (Addr.mk n0 0 none) 7)) = (some (Value.int IntKind.i64 x23))) ∧ (∃ b24 : Bool, ((H.cell? u15 (Addr.add (Addr.mk n0 0 none) 8)) = (some (Value.bool b24))) ∧ (K x16 x17 x18 x19 x20 x21 x22 x23 b24 u15))))))))))) ∧ ((¬ ((8 : Int) ≤ x4)) → (2 ≤ 8) ∧ ((((0 : Int) ≤ x4) ∧ (x4 < (8 : Int))) ∧ (∃ x25 : Int, ((H.cell? u14 (Addr.add (Addr.mk n0 0 none) ((Int.toNat x4) * 1))) = (some (Value.int IntKind.i64 x25))) ∧ ((InR (x3 + x25)) ∧ (((65536 : Int) ≠ 0) ∧ ((2 ≤ 8) ∧ ((((0 : Int) ≤ x4) ∧ (x4 < (8 : Int))) ∧ (H.St u14 (Addr.add (Addr.mk n0 0 none) ((Int.toNat x4) * 1)) [(Value.int IntKind.i64 (Int.tmod (x3 + x25) 65536))] (fun (u26 : H) => ((65536 : Int) ≠ 0) ∧ ((InR (Int.tdiv (x3 + x25) 65536)) ∧ ((InR (x4 + 1)) ∧ ((I1 (Int.tdiv (x3 + x25) 65536) (x4 + 1) x5 x6 x7 x8 x9 x10 x11 x12 b13 u26) ∧ ((I2 (Int.tdiv (x3 + x25) 65536) (x4 + 1) x5 x6 x7 x8 x9 x10 x11 x12 b13 u26) < (I2 x3 x4 x5 x6 x7 x8 x9 x10 x11 x12 b13 u14))))))))))))))) ∧ ((¬ ((0 : Int) < x3)) → ∃ x27 : Int, ((H.cell? u14 (Addr.mk n0 0 none)) = (some (Value.int IntKind.i64 x27))) ∧ (∃ x28 : Int, ((H.cell? u14 (Addr.add (Addr.mk n0 0 none) 1)) = (some (Value.int IntKind.i64 x28))) ∧ (∃ x29 : Int, ((H.cell? u14 (Addr.add (Addr.mk n0 0 none) 2)) = (some (Value.int IntKind.i64 x29))) ∧ (∃ x30 : Int, ((H.cell? u14 (Addr.add (Addr.mk n0 0 none) 3)) = (some (Value.int IntKind.i64 x30))) ∧ (∃ x31 : Int, ((H.cell? u14 (Addr.add (Addr.mk n0 0 none) 4)) = (some (Value.int IntKind.i64 x31))) ∧ (∃ x32 : Int, ((H.cell? u14 (Addr.add (Addr.mk n0 0 none) 5)) = (some (Value.int IntKind.i64 x32))) ∧ (∃ x33 : Int, ((H.cell? u14 (Addr.add (Addr.mk n0 0 none) 6)) = (some (Value.int IntKind.i64 x33))) ∧ (∃ x34 : Int, ((H.cell? u14 (Addr.add (Addr.mk n0 0 none) 7)) = (some (Value.int IntKind.i64 x34))) ∧ (∃ b35 : Bool, ((H.cell? u14 (Addr.add (Addr.mk n0 0 none) 8)) = (some (Value.bool b35))) ∧ (K x27 x28 x29 x30 x31 x32 x33 x34 b35 u14)))))))))))) : C.theodoliteref01_Num__plus a0_0 a0_1 a0_2 a0_3 a0_4 a0_5 a0_6 a0_7 a0_8 a1 a2 u K :=
  fn_sound' (C := { P := Tryz.prog, exp := [3], wrap := false, eqT := eqT, ent := [], nxt := [] }) (args := [(Value.agg #[(Value.int IntKind.i64 a0_0), (Value.int IntKind.i64 a0_1), (Value.int IntKind.i64 a0_2), (Value.int IntKind.i64 a0_3), (Value.int IntKind.i64 a0_4), (Value.int IntKind.i64 a0_5), (Value.int IntKind.i64 a0_6), (Value.int IntKind.i64 a0_7), (Value.bool a0_8)]), (Value.int IntKind.i64 a1), (Value.int IntKind.i64 a2)]) (good _ _) Tryz.func154 (by kernel_rfl) [(26, ⟨[(2, .int .i64), (7, .int .i64)], [(0, [.int .i64, .int .i64, .int .i64, .int .i64, .int .i64, .int .i64, .int .i64, .int .i64, .bool])]⟩)] (by kernel_rfl) (by kernel_rfl) (Eq.mp (by kernel_rfl) h)
theorem vc.theodoliteref03_CheckRegion (a0_0 : Int) (a0_1 : Sl) (a0_2 : Sl) (a0_3 : Int) (a0_4 : Int) (a0_5 : Sl) (a1 : Int) (u : H) (K : Int → H → Prop) (h : ∀ K0 : (Int → (H → Prop)), (∀ x1 : Int, ∀ u2 : H, (∀ K3 : (Int → (H → Prop)), (∀ x4 : Int, ∀ u5 : H, (((a0_0 = 1) → K 0 u5) ∧ ((¬ (a0_0 = 1)) → C.theodoliteref03_Check a0_1 a1 u5 (fun (x6 : Int) (u7 : H) => ∀ K8 : (Int → (H → Prop)), (∀ x9 : Int, ∀ u10 : H, (C.theodoliteref03_Check a0_2 a1 u10 (fun (x11 : Int) (u12 : H) => ((¬ (x11 = 0)) → K x11 u12) ∧ ((x11 = 0) → ∃ I13 : (Int → (Int → (H → Prop))), ∃ I14 : (Int → (Int → (H → Nat))), (I13 x9 0 u12) ∧ (∀ x15 : Int, ∀ x16 : Int, ∀ u17 : H, (I13 x15 x16 u17) → ((x16 < a1) → ∃ r18 : Addr, (a0_1.a = (some r18)) ∧ ((((0 : Int) ≤ x16) ∧ (x16 < (a0_1.n : Int))) ∧ (∃ x19 : Int, ((H.cell? u17 (Addr.add r18 ((Int.toNat x16) * 1))) = (some (Value.int IntKind.i64 x19))) ∧ (∃ r20 : Addr, (a0_2.a = (some r20)) ∧ ((((0 : Int) ≤ x16) ∧ (x16 < (a0_2.n : Int))) ∧ (∃ x21 : Int, ((H.cell? u17 (Addr.add r20 ((Int.toNat x16) * 1))) = (some (Value.int IntKind.i64 x21))) ∧ (((x21 < x19) → K 32 u17) ∧ ((¬ (x21 < x19)) → (InR (x16 + 1)) ∧ ((I13 x15 (x16 + 1) u17) ∧ ((I14 x15 (x16 + 1) u17) < (I14 x15 x16 u17))))))))))) ∧ ((¬ (x16 < a1)) → K 0 u17))))) → K8 x9 u10) → ((¬ (x6 = 0)) → K x6 u7) ∧ ((x6 = 0) → ((a0_0 = 3) → K x6 u7) ∧ ((¬ (a0_0 = 3)) → K8 x4 u7))))) → K3 x4 u5) → C.theodoliteref03_form a0_0 a0_1 a0_2 a0_3 a0_4 a0_5 u2 (fun (b22 : Bool) (u23 : H) => ((¬ (b22 = Bool.true)) → K 32 u23) ∧ ((b22 = Bool.true) → C.theodoliteref03_ids a0_5 u23 (fun (b24 : Bool) (u25 : H) => ((¬ (b24 = Bool.true)) → K 32 u25) ∧ ((b24 = Bool.true) → K3 x1 u25))))) → K0 x1 u2) → ((a1 < 1) → K 30 u) ∧ ((¬ (a1 < 1)) → (((64 : Int) < a1) → K 30 u) ∧ ((¬ ((64 : Int) < a1)) → K0 0 u))) : C.theodoliteref03_CheckRegion a0_0 a0_1 a0_2 a0_3 a0_4 a0_5 a1 u K :=
  fn_sound' (C := { P := Tryz.prog, exp := [], wrap := false, eqT := eqT, ent := [], nxt := [] }) (args := [(Value.agg #[(Value.int IntKind.i64 a0_0), (Value.slice a0_1.a a0_1.n a0_1.c), (Value.slice a0_2.a a0_2.n a0_2.c), (Value.int IntKind.u64 a0_3), (Value.int IntKind.u64 a0_4), (Value.slice a0_5.a a0_5.n a0_5.c)]), (Value.int IntKind.i64 a1)]) (good _ _) Tryz.func155 (by kernel_rfl) [(3, ⟨[(4, .int .i64)], []⟩), (7, ⟨[(4, .int .i64)], []⟩), (63, ⟨[(4, .int .i64)], []⟩), (4090, ⟨[(4, .int .i64), (6, .int .i64)], []⟩)] (by kernel_rfl) (by kernel_rfl) (Eq.mp (by kernel_rfl) h)
theorem vc.theodoliteref03_In (a0_0 : Int) (a0_1 : Sl) (a0_2 : Sl) (a0_3 : Int) (a0_4 : Int) (a0_5 : Sl) (a1 : Sl) (u : H) (K : Bool → H → Prop) (h : ((a0_0 = 2) → ∃ I0 : (Bool → (Int → (H → Prop))), ∃ I1 : (Bool → (Int → (H → Nat))), (I0 Bool.false 0 u) ∧ (∀ b2 : Bool, ∀ x3 : Int, ∀ u4 : H, (I0 b2 x3 u4) → ((x3 < (a1.n : Int)) → ∀ K5 : (Bool → (H → Prop)), (∀ b6 : Bool, ∀ u7 : H, ((InR (x3 + 1)) ∧ ((I0 b6 (x3 + 1) u7) ∧ ((I1 b6 (x3 + 1) u7) < (I1 b2 x3 u4)))) → K5 b6 u7) → ∃ r8 : Addr, (a1.a = (some r8)) ∧ ((((0 : Int) ≤ x3) ∧ (x3 < (a1.n : Int))) ∧ (∃ x9 : Int, ((H.cell? u4 (Addr.add r8 ((Int.toNat x3) * 1))) = (some (Value.int IntKind.i64 x9))) ∧ (∃ r10 : Addr, (a0_1.a = (some r10)) ∧ ((((0 : Int) ≤ x3) ∧ (x3 < (a0_1.n : Int))) ∧ (∃ x11 : Int, ((H.cell? u4 (Addr.add r10 ((Int.toNat x3) * 1))) = (some (Value.int IntKind.i64 x11))) ∧ (((x9 < x11) → K Bool.false u4) ∧ ((¬ (x9 < x11)) → ∃ r12 : Addr, (a1.a = (some r12)) ∧ ((((0 : Int) ≤ x3) ∧ (x3 < (a1.n : Int))) ∧ (∃ x13 : Int, ((H.cell? u4 (Addr.add r12 ((Int.toNat x3) * 1))) = (some (Value.int IntKind.i64 x13))) ∧ (∃ r14 : Addr, (a0_2.a = (some r14)) ∧ ((((0 : Int) ≤ x3) ∧ (x3 < (a0_2.n : Int))) ∧ (∃ x15 : Int, ((H.cell? u4 (Addr.add r14 ((Int.toNat x3) * 1))) = (some (Value.int IntKind.i64 x15))) ∧ (((x15 < x13) → K Bool.false u4) ∧ ((¬ (x15 < x13)) → K5 b2 u4))))))))))))))) ∧ ((¬ (x3 < (a1.n : Int))) → K Bool.true u4))) ∧ ((¬ (a0_0 = 2)) → ((a0_0 = 3) → C.theodoliteref03_Far a0_1 a1 u (fun (x16 : Int) (x17 : Int) (u18 : H) => (H.le u u18) ∧ (C.theodoliteref01_Less a0_3 a0_4 x16 x17 u18 (fun (b19 : Bool) (u20 : H) => K (Bool.not (@decide (b19 = Bool.true) (@inferInstance (@Decidable (@Eq @Bool b19 @Bool.true)) (@instDecidableEqBool b19 @Bool.true)))) u20)))) ∧ ((¬ (a0_0 = 3)) → K Bool.true u))) : C.theodoliteref03_In a0_0 a0_1 a0_2 a0_3 a0_4 a0_5 a1 u K :=
  fn_sound' (C := { P := Tryz.prog, exp := [], wrap := false, eqT := eqT, ent := [], nxt := [] }) (args := [(Value.agg #[(Value.int IntKind.i64 a0_0), (Value.slice a0_1.a a0_1.n a0_1.c), (Value.slice a0_2.a a0_2.n a0_2.c), (Value.int IntKind.u64 a0_3), (Value.int IntKind.u64 a0_4), (Value.slice a0_5.a a0_5.n a0_5.c)]), (Value.slice a1.a a1.n a1.c)]) (good _ _) Tryz.func156 (by kernel_rfl) [(426, ⟨[(4, .bool), (5, .int .i64)], []⟩), (1705, ⟨[(4, .bool)], []⟩)] (by kernel_rfl) (by kernel_rfl) (Eq.mp (by kernel_rfl) h)
theorem vc.theodoliteref05_Before (a0_0 : Int) (a0_1 : Int) (a0_2 : Int) (a1_0 : Int) (a1_1 : Int) (a1_2 : Int) (u : H) (K : Bool → H → Prop) (h : ((¬ ((a0_1 = a1_1) ∧ (a0_2 = a1_2))) → C.theodoliteref01_Less a0_1 a0_2 a1_1 a1_2 u (fun (b0 : Bool) (u1 : H) => K b0 u1)) ∧ (((a0_1 = a1_1) ∧ (a0_2 = a1_2)) → K (@decide (a0_0 < a1_0) (@inferInstance (@Decidable (@LT.lt @Int @Int.instLTInt a0_0 a1_0)) (@Int.decLt a0_0 a1_0))) u)) : C.theodoliteref05_Before a0_0 a0_1 a0_2 a1_0 a1_1 a1_2 u K :=
  fn_sound' (C := { P := Tryz.prog, exp := [], wrap := false, eqT := eqT, ent := [], nxt := [] }) (args := [(Value.agg #[(Value.int IntKind.i64 a0_0), (Value.int IntKind.u64 a0_1), (Value.int IntKind.u64 a0_2)]), (Value.agg #[(Value.int IntKind.i64 a1_0), (Value.int IntKind.u64 a1_1), (Value.int IntKind.u64 a1_2)])]) (good _ _) Tryz.func157 (by kernel_rfl) [] (by kernel_rfl) (by kernel_rfl) (Eq.mp (by kernel_rfl) h)
theorem vc.slices_rotateCmpFunc_api_Row_ (a0 : Sl) (a1 : Int) (a2 : Int) (a3 : Int) (a4 : Value) (u : H) (K : H → Prop) (h : (InR (a2 - a1)) ∧ ((InR (a3 - a2)) ∧ (∃ I0 : (Int → (Int → (H → Prop))), ∃ I1 : (Int → (Int → (H → Nat))), (I0 (a2 - a1) (a3 - a2) u) ∧ (∀ x2 : Int, ∀ x3 : Int, ∀ u4 : H, (I0 x2 x3 u4) → ((¬ (x2 = x3)) → ((x3 < x2) → (InR (a2 - x2)) ∧ (C.slices_swapRangeCmpFunc_api_Row_ a0 (a2 - x2) a2 x3 a4 u4 (fun (u5 : H) => (InR (x2 - x3)) ∧ ((I0 (x2 - x3) x3 u5) ∧ ((I1 (x2 - x3) x3 u5) < (I1 x2 x3 u4)))))) ∧ ((¬ (x3 < x2)) → (InR (a2 - x2)) ∧ ((InR (a2 + x3)) ∧ ((InR ((a2 + x3) - x2)) ∧ (C.slices_swapRangeCmpFunc_api_Row_ a0 (a2 - x2) ((a2 + x3) - x2) x2 a4 u4 (fun (u6 : H) => (InR (x3 - x2)) ∧ ((I0 x2 (x3 - x2) u6) ∧ ((I1 x2 (x3 - x2) u6) < (I1 x2 x3 u4))))))))) ∧ ((x2 = x3) → (InR (a2 - x2)) ∧ (C.slices_swapRangeCmpFunc_api_Row_ a0 (a2 - x2) a2 x2 a4 u4 (fun (u7 : H) => K u7))))))) : C.slices_rotateCmpFunc_api_Row_ a0 a1 a2 a3 a4 u K :=
  fn_sound' (C := { P := Tryz.prog, exp := [], wrap := false, eqT := eqT, ent := [], nxt := [] }) (args := [(Value.slice a0.a a0.n a0.c), (Value.int IntKind.i64 a1), (Value.int IntKind.i64 a2), (Value.int IntKind.i64 a3), a4]) (good _ _) Tryz.func158 (by kernel_rfl) [(28, ⟨[(10, .int .i64), (11, .int .i64)], []⟩)] (by kernel_rfl) (by kernel_rfl) (Eq.mp (by kernel_rfl) h)
theorem vc.theodoliteref03_form (a0_0 : Int) (a0_1 : Sl) (a0_2 : Sl) (a0_3 : Int) (a0_4 : Int) (a0_5 : Sl) (u : H) (K : Bool → H → Prop) (h : ((a0_0 = 1) → (((a0_1.n : Int) = 0) → (((a0_2.n : Int) = 0) → K (@decide ((a0_3 = 0) ∧ (a0_4 = 0)) (@PD.d (@PD.mk (@And (@PD.p (@PD.mk (@Eq @Int a0_3 (@Int.ofNat 0)) (@inferInstance (@Decidable (@Eq @Int a0_3 (@Int.ofNat 0))) (@Int.instDecidableEq a0_3 (@Int.ofNat 0))))) (@PD.p (@PD.mk (@Eq @Int a0_4 (@Int.ofNat 0)) (@inferInstance (@Decidable (@Eq @Int a0_4 (@Int.ofNat 0))) (@Int.instDecidableEq a0_4 (@Int.ofNat 0)))))) (@instDecidableAnd (@PD.p (@PD.mk (@Eq @Int a0_3 (@Int.ofNat 0)) (@inferInstance (@Decidable (@Eq @Int a0_3 (@Int.ofNat 0))) (@Int.instDecidableEq a0_3 (@Int.ofNat 0))))) (@PD.p (@PD.mk (@Eq @Int a0_4 (@Int.ofNat 0)) (@inferInstance (@Decidable (@Eq @Int a0_4 (@Int.ofNat 0))) (@Int.instDecidableEq a0_4 (@Int.ofNat 0))))) (@PD.d (@PD.mk (@Eq @Int a0_3 (@Int.ofNat 0)) (@inferInstance (@Decidable (@Eq @Int a0_3 (@Int.ofNat 0))) (@Int.instDecidableEq a0_3 (@Int.ofNat 0))))) (@PD.d (@PD.mk (@Eq @Int a0_4 (@Int.ofNat 0)) (@inferInstance (@Decidable (@Eq @Int a0_4 (@Int.ofNat 0))) (@Int.instDecidableEq a0_4 (@Int.ofNat 0))))))))) u) ∧ ((¬ ((a0_2.n : Int) = 0)) → K Bool.false u)) ∧ ((¬ ((a0_1.n : Int) = 0)) → K Bool.false u)) ∧ ((¬ (a0_0 = 1)) → ((a0_0 = 2) → K (@decide ((a0_3 = 0) ∧ (a0_4 = 0)) (@PD.d (@PD.mk (@And (@PD.p (@PD.mk (@Eq @Int a0_3 (@Int.ofNat 0)) (@inferInstance (@Decidable (@Eq @Int a0_3 (@Int.ofNat 0))) (@Int.instDecidableEq a0_3 (@Int.ofNat 0))))) (@PD.p (@PD.mk (@Eq @Int a0_4 (@Int.ofNat 0)) (@inferInstance (@Decidable (@Eq @Int a0_4 (@Int.ofNat 0))) (@Int.instDecidableEq a0_4 (@Int.ofNat 0)))))) (@instDecidableAnd (@PD.p (@PD.mk (@Eq @Int a0_3 (@Int.ofNat 0)) (@inferInstance (@Decidable (@Eq @Int a0_3 (@Int.ofNat 0))) (@Int.instDecidableEq a0_3 (@Int.ofNat 0))))) (@PD.p (@PD.mk (@Eq @Int a0_4 (@Int.ofNat 0)) (@inferInstance (@Decidable (@Eq @Int a0_4 (@Int.ofNat 0))) (@Int.instDecidableEq a0_4 (@Int.ofNat 0))))) (@PD.d (@PD.mk (@Eq @Int a0_3 (@Int.ofNat 0)) (@inferInstance (@Decidable (@Eq @Int a0_3 (@Int.ofNat 0))) (@Int.instDecidableEq a0_3 (@Int.ofNat 0))))) (@PD.d (@PD.mk (@Eq @Int a0_4 (@Int.ofNat 0)) (@inferInstance (@Decidable (@Eq @Int a0_4 (@Int.ofNat 0))) (@Int.instDecidableEq a0_4 (@Int.ofNat 0))))))))) u) ∧ ((¬ (a0_0 = 2)) → ((a0_0 = 3) → K (@decide ((a0_2.n : Int) = 0) (@inferInstance (@Decidable (@Eq @Int (@Nat.cast @Int @instNatCastInt (@Sl.n a0_2)) (@OfNat.ofNat @Int 0 (@instOfNat 0)))) (@Int.instDecidableEq (@Nat.cast @Int @instNatCastInt (@Sl.n a0_2)) (@OfNat.ofNat @Int 0 (@instOfNat 0))))) u) ∧ ((¬ (a0_0 = 3)) → K Bool.false u)))) : C.theodoliteref03_form a0_0 a0_1 a0_2 a0_3 a0_4 a0_5 u K :=
  fn_sound' (C := { P := Tryz.prog, exp := [], wrap := false, eqT := eqT, ent := [], nxt := [] }) (args := [(Value.agg #[(Value.int IntKind.i64 a0_0), (Value.slice a0_1.a a0_1.n a0_1.c), (Value.slice a0_2.a a0_2.n a0_2.c), (Value.int IntKind.u64 a0_3), (Value.int IntKind.u64 a0_4), (Value.slice a0_5.a a0_5.n a0_5.c)])]) (good _ _) Tryz.func176 (by kernel_rfl) [] (by kernel_rfl) (by kernel_rfl) (Eq.mp (by kernel_rfl) h)
theorem vc.theodoliteref03_ids (a0 : Sl) (u : H) (K : Bool → H → Prop) (h : ∃ I0 : (Bool → (Int → (H → Prop))), ∃ I1 : (Bool → (Int → (H → Nat))), (I0 Bool.false 0 u) ∧ (∀ b2 : Bool, ∀ x3 : Int, ∀ u4 : H, (I0 b2 x3 u4) → ((x3 < (a0.n : Int)) → ∀ K5 : (Bool → (H → Prop)), (∀ b6 : Bool, ∀ u7 : H, ((InR (x3 + 1)) ∧ ((I0 b6 (x3 + 1) u7) ∧ ((I1 b6 (x3 + 1) u7) < (I1 b2 x3 u4)))) → K5 b6 u7) → ∃ r8 : Addr, (a0.a = (some r8)) ∧ ((((0 : Int) ≤ x3) ∧ (x3 < (a0.n : Int))) ∧ (∃ x9 : Int, ((H.cell? u4 (Addr.add r8 ((Int.toNat x3) * 1))) = (some (Value.int IntKind.i64 x9))) ∧ (C.theodoliteref03_Id x9 u4 (fun (b10 : Bool) (u11 : H) => ((¬ (b10 = Bool.true)) → (K Bool.false u11) ∧ (K Bool.false u11)) ∧ ((b10 = Bool.true) → (((0 : Int) < x3) → (InR (x3 - 1)) ∧ (∃ r12 : Addr, (a0.a = (some r12)) ∧ ((((0 : Int) ≤ (x3 - 1)) ∧ ((x3 - 1) < (a0.n : Int))) ∧ (∃ r13 : Addr, (a0.a = (some r13)) ∧ ((((0 : Int) ≤ x3) ∧ (x3 < (a0.n : Int))) ∧ ((∃ x14 : Int, ((H.cell? u11 (Addr.add r12 ((Int.toNat (x3 - 1)) * 1))) = (some (Value.int IntKind.i64 x14))) ∧ (∃ x15 : Int, ((H.cell? u11 (Addr.add r13 ((Int.toNat x3) * 1))) = (some (Value.int IntKind.i64 x15))) ∧ (((x15 ≤ x14) → K Bool.false u11) ∧ ((¬ (x15 ≤ x14)) → K5 b2 u11)))) ∧ (∃ x16 : Int, ((H.cell? u11 (Addr.add r13 ((Int.toNat x3) * 1))) = (some (Value.int IntKind.i64 x16))) ∧ (∃ x17 : Int, ((H.cell? u11 (Addr.add r12 ((Int.toNat (x3 - 1)) * 1))) = (some (Value.int IntKind.i64 x17))) ∧ (((x16 ≤ x17) → K Bool.false u11) ∧ ((¬ (x16 ≤ x17)) → K5 b2 u11)))))))))) ∧ ((¬ ((0 : Int) < x3)) → (K5 b2 u11) ∧ (K5 b2 u11)))))))) ∧ ((¬ (x3 < (a0.n : Int))) → K Bool.true u4))) : C.theodoliteref03_ids a0 u K :=
  fn_sound' (C := { P := Tryz.prog, exp := [], wrap := false, eqT := eqT, ent := [], nxt := [] }) (args := [(Value.slice a0.a a0.n a0.c)]) (good _ _) Tryz.func177 (by kernel_rfl) [(26, ⟨[(2, .bool), (3, .int .i64)], []⟩), (105, ⟨[(2, .bool)], []⟩)] (by kernel_rfl) (by kernel_rfl) (Eq.mp (by kernel_rfl) h)
theorem vc.slices_swapRangeCmpFunc_api_Row_ (a0 : Sl) (a1 : Int) (a2 : Int) (a3 : Int) (a4 : Value) (u : H) (K : H → Prop) (h : ∃ I0 : (Int → (H → Prop)), ∃ I1 : (Int → (H → Nat)), (I0 0 u) ∧ (∀ x2 : Int, ∀ u3 : H, (I0 x2 u3) → ((x2 < a3) → (InR (a1 + x2)) ∧ ((InR (a2 + x2)) ∧ ((InR (a2 + x2)) ∧ (∃ r4 : Addr, (a0.a = (some r4)) ∧ ((((0 : Int) ≤ (a2 + x2)) ∧ ((a2 + x2) < (a0.n : Int))) ∧ ((InR (a1 + x2)) ∧ (∃ r5 : Addr, (a0.a = (some r5)) ∧ ((((0 : Int) ≤ (a1 + x2)) ∧ ((a1 + x2) < (a0.n : Int))) ∧ (∃ x6 : Int, ((H.cell? u3 (Addr.add r4 ((Int.toNat (a2 + x2)) * 2))) = (some (Value.int IntKind.i64 x6))) ∧ (∃ s7 : Sl, ((H.cell? u3 (Addr.add (Addr.add r4 ((Int.toNat (a2 + x2)) * 2)) 1)) = (some (Value.slice s7.a s7.n s7.c))) ∧ (∃ x8 : Int, ((H.cell? u3 (Addr.add r5 ((Int.toNat (a1 + x2)) * 2))) = (some (Value.int IntKind.i64 x8))) ∧ (∃ s9 : Sl, ((H.cell? u3 (Addr.add (Addr.add r5 ((Int.toNat (a1 + x2)) * 2)) 1)) = (some (Value.slice s9.a s9.n s9.c))) ∧ (∃ r10 : Addr, (a0.a = (some r10)) ∧ ((((0 : Int) ≤ (a1 + x2)) ∧ ((a1 + x2) < (a0.n : Int))) ∧ (H.St u3 (Addr.add r10 ((Int.toNat (a1 + x2)) * 2)) [(Value.int IntKind.i64 x6), (Value.slice s7.a s7.n s7.c)] (fun (u11 : H) => ∃ r12 : Addr, (a0.a = (some r12)) ∧ ((((0 : Int) ≤ (a2 + x2)) ∧ ((a2 + x2) < (a0.n : Int))) ∧ (H.St u11 (Addr.add r12 ((Int.toNat (a2 + x2)) * 2)) [(Value.int IntKind.i64 x8), (Value.slice s9.a s9.n s9.c)] (fun (u13 : H) => (InR (x2 + 1)) ∧ ((I0 (x2 + 1) u13) ∧ ((I1 (x2 + 1) u13) < (I1 x2 u3)))))))))))))))))))))) ∧ ((¬ (x2 < a3)) → K u3))) : C.slices_swapRangeCmpFunc_api_Row_ a0 a1 a2 a3 a4 u K :=
  fn_sound' (C := { P := Tryz.prog, exp := [], wrap := false, eqT := eqT, ent := [], nxt := [] }) (args := [(Value.slice a0.a a0.n a0.c), (Value.int IntKind.i64 a1), (Value.int IntKind.i64 a2), (Value.int IntKind.i64 a3), a4]) (good _ _) Tryz.func178 (by kernel_rfl) [(6, ⟨[(10, .int .i64)], []⟩)] (by kernel_rfl) (by kernel_rfl) (Eq.mp (by kernel_rfl) h)
theorem vc.topk_hits__Len (a0 : Sl) (u : H) (K : Int → H → Prop) (h : K (a0.n : Int) u) : C.topk_hits__Len a0 u K :=
  fn_sound' (C := { P := Tryz.prog, exp := [], wrap := false, eqT := eqT, ent := [], nxt := [] }) (args := [(Value.slice a0.a a0.n a0.c)]) (good _ _) Tryz.func202 (by kernel_rfl) [] (by kernel_rfl) (by kernel_rfl) (Eq.mp (by kernel_rfl) h)
theorem vc.topk_hits__Less (a0 : Sl) (a1 : Int) (a2 : Int) (u : H) (K : Bool → H → Prop) (h : ∃ r0 : Addr, (a0.a = (some r0)) ∧ ((((0 : Int) ≤ a2) ∧ (a2 < (a0.n : Int))) ∧ (∃ r1 : Addr, (a0.a = (some r1)) ∧ ((((0 : Int) ≤ a1) ∧ (a1 < (a0.n : Int))) ∧ (∃ x2 : Int, ((H.cell? u (Addr.add r0 ((Int.toNat a2) * 3))) = (some (Value.int IntKind.i64 x2))) ∧ (∃ x3 : Int, ((H.cell? u (Addr.add (Addr.add r0 ((Int.toNat a2) * 3)) 1)) = (some (Value.int IntKind.u64 x3))) ∧ (∃ x4 : Int, ((H.cell? u (Addr.add (Addr.add r0 ((Int.toNat a2) * 3)) 2)) = (some (Value.int IntKind.u64 x4))) ∧ (∃ x5 : Int, ((H.cell? u (Addr.add r1 ((Int.toNat a1) * 3))) = (some (Value.int IntKind.i64 x5))) ∧ (∃ x6 : Int, ((H.cell? u (Addr.add (Addr.add r1 ((Int.toNat a1) * 3)) 1)) = (some (Value.int IntKind.u64 x6))) ∧ (∃ x7 : Int, ((H.cell? u (Addr.add (Addr.add r1 ((Int.toNat a1) * 3)) 2)) = (some (Value.int IntKind.u64 x7))) ∧ (C.topk_Less x2 x3 x4 x5 x6 x7 u (fun (b8 : Bool) (u9 : H) => K b8 u9)))))))))))) : C.topk_hits__Less a0 a1 a2 u K :=
  fn_sound' (C := { P := Tryz.prog, exp := [], wrap := false, eqT := eqT, ent := [], nxt := [] }) (args := [(Value.slice a0.a a0.n a0.c), (Value.int IntKind.i64 a1), (Value.int IntKind.i64 a2)]) (good _ _) Tryz.func203 (by kernel_rfl) [] (by kernel_rfl) (by kernel_rfl) (Eq.mp (by kernel_rfl) h)
theorem vc.topk_hits__Swap (a0 : Sl) (a1 : Int) (a2 : Int) (u : H) (K : H → Prop) (h : ∃ r0 : Addr, (a0.a = (some r0)) ∧ ((((0 : Int) ≤ a2) ∧ (a2 < (a0.n : Int))) ∧ (∃ r1 : Addr, (a0.a = (some r1)) ∧ ((((0 : Int) ≤ a1) ∧ (a1 < (a0.n : Int))) ∧ (∃ x2 : Int, ((H.cell? u (Addr.add r0 ((Int.toNat a2) * 3))) = (some (Value.int IntKind.i64 x2))) ∧ (∃ x3 : Int, ((H.cell? u (Addr.add (Addr.add r0 ((Int.toNat a2) * 3)) 1)) = (some (Value.int IntKind.u64 x3))) ∧ (∃ x4 : Int, ((H.cell? u (Addr.add (Addr.add r0 ((Int.toNat a2) * 3)) 2)) = (some (Value.int IntKind.u64 x4))) ∧ (∃ x5 : Int, ((H.cell? u (Addr.add r1 ((Int.toNat a1) * 3))) = (some (Value.int IntKind.i64 x5))) ∧ (∃ x6 : Int, ((H.cell? u (Addr.add (Addr.add r1 ((Int.toNat a1) * 3)) 1)) = (some (Value.int IntKind.u64 x6))) ∧ (∃ x7 : Int, ((H.cell? u (Addr.add (Addr.add r1 ((Int.toNat a1) * 3)) 2)) = (some (Value.int IntKind.u64 x7))) ∧ (∃ r8 : Addr, (a0.a = (some r8)) ∧ ((((0 : Int) ≤ a1) ∧ (a1 < (a0.n : Int))) ∧ (H.St u (Addr.add r8 ((Int.toNat a1) * 3)) [(Value.int IntKind.i64 x2), (Value.int IntKind.u64 x3), (Value.int IntKind.u64 x4)] (fun (u9 : H) => ∃ r10 : Addr, (a0.a = (some r10)) ∧ ((((0 : Int) ≤ a2) ∧ (a2 < (a0.n : Int))) ∧ (H.St u9 (Addr.add r10 ((Int.toNat a2) * 3)) [(Value.int IntKind.i64 x5), (Value.int IntKind.u64 x6), (Value.int IntKind.u64 x7)] (fun (u11 : H) => K u11))))))))))))))))) : C.topk_hits__Swap a0 a1 a2 u K :=
  fn_sound' (C := { P := Tryz.prog, exp := [], wrap := false, eqT := eqT, ent := [], nxt := [] }) (args := [(Value.slice a0.a a0.n a0.c), (Value.int IntKind.i64 a1), (Value.int IntKind.i64 a2)]) (good _ _) Tryz.func204 (by kernel_rfl) [] (by kernel_rfl) (by kernel_rfl) (Eq.mp (by kernel_rfl) h)
theorem vc.topk_hits__Push (a0 : (Option Addr)) (a1 : Value) (u : H) (K : H → Prop) (h : SemT Tryz.prog (Instr.typeAssert a1 20 66 Bool.true) [(Sh.agg [(CT.int IntKind.i64), (CT.int IntKind.u64), (CT.int IntKind.u64)]), (Sh.one CT.bool)] u (fun (x0 : Int) (x1 : Int) (x2 : Int) (b3 : Bool) (u4 : H) => ((b3 = Bool.true) → ∃ r5 : Addr, (a0 = (some r5)) ∧ (∃ s6 : Sl, ((H.cell? u4 r5) = (some (Value.slice s6.a s6.n s6.c))) ∧ (SemT Tryz.prog (Instr.buildSlice 127 1 #[(0, (Value.agg #[(Value.int IntKind.i64 x0), (Value.int IntKind.u64 x1), (Value.int IntKind.u64 x2)]))]) [(Sh.one CT.slice)] u4 (fun (s7 : Sl) (u8 : H) => (H.le u4 u8) ∧ (SemT Tryz.prog (Builtin.append_ #[127, 127] 127 #[(Value.slice s6.a s6.n s6.c), (Value.slice s7.a s7.n s7.c)]) [(Sh.one CT.slice)] u8 (fun (s9 : Sl) (u10 : H) => ∃ r11 : Addr, (a0 = (some r11)) ∧ (H.St u10 r11 [(Value.slice s9.a s9.n s9.c)] (fun (u12 : H) => K u12)))))))) ∧ ((b3 = Bool.false) → K u4))) : C.topk_hits__Push a0 a1 u K :=
  fn_sound' (C := { P := Tryz.prog, exp := [], wrap := false, eqT := eqT, ent := [], nxt := [] }) (args := [(Value.pointer a0), a1]) (good _ _) Tryz.func206 (by kernel_rfl) [] (by kernel_rfl) (by kernel_rfl) (Eq.mp (by kernel_rfl) h)
theorem vc.flat_queue__Less (a0 : Sl) (a1 : Int) (a2 : Int) (u : H) (K : Bool → H → Prop) (h : ∃ r0 : Addr, (a0.a = (some r0)) ∧ ((((0 : Int) ≤ a1) ∧ (a1 < (a0.n : Int))) ∧ (∃ r1 : Addr, (a0.a = (some r1)) ∧ ((((0 : Int) ≤ a2) ∧ (a2 < (a0.n : Int))) ∧ (∃ x2 : Int, ((H.cell? u (Addr.add (Addr.add r0 ((Int.toNat a1) * 3)) 1)) = (some (Value.int IntKind.u64 x2))) ∧ (∃ x3 : Int, ((H.cell? u (Addr.add (Addr.add (Addr.add r0 ((Int.toNat a1) * 3)) 1) 1)) = (some (Value.int IntKind.u64 x3))) ∧ (∃ x4 : Int, ((H.cell? u (Addr.add (Addr.add r1 ((Int.toNat a2) * 3)) 1)) = (some (Value.int IntKind.u64 x4))) ∧ (∃ x5 : Int, ((H.cell? u (Addr.add (Addr.add (Addr.add r1 ((Int.toNat a2) * 3)) 1) 1)) = (some (Value.int IntKind.u64 x5))) ∧ (C.wide_Cmp x2 x3 x4 x5 u (fun (x6 : Int) (u7 : H) => K (@decide (x6 < 0) (@inferInstance (@Decidable (@LT.lt @Int @Int.instLTInt x6 (@OfNat.ofNat @Int 0 (@instOfNat 0)))) (@Int.decLt x6 (@OfNat.ofNat @Int 0 (@instOfNat 0))))) u7)))))))))) : C.flat_queue__Less a0 a1 a2 u K :=
  fn_sound' (C := { P := Tryz.prog, exp := [], wrap := false, eqT := eqT, ent := [], nxt := [] }) (args := [(Value.slice a0.a a0.n a0.c), (Value.int IntKind.i64 a1), (Value.int IntKind.i64 a2)]) (good _ _) Tryz.func207 (by kernel_rfl) [] (by kernel_rfl) (by kernel_rfl) (Eq.mp (by kernel_rfl) h)
theorem vc.flat_queue__Swap (a0 : Sl) (a1 : Int) (a2 : Int) (u : H) (K : H → Prop) (h : ∃ r0 : Addr, (a0.a = (some r0)) ∧ ((((0 : Int) ≤ a2) ∧ (a2 < (a0.n : Int))) ∧ (∃ r1 : Addr, (a0.a = (some r1)) ∧ ((((0 : Int) ≤ a1) ∧ (a1 < (a0.n : Int))) ∧ (∃ p2 : (Option Addr), ((H.cell? u (Addr.add r0 ((Int.toNat a2) * 3))) = (some (Value.pointer p2))) ∧ (∃ x3 : Int, ((H.cell? u (Addr.add (Addr.add r0 ((Int.toNat a2) * 3)) 1)) = (some (Value.int IntKind.u64 x3))) ∧ (∃ x4 : Int, ((H.cell? u (Addr.add (Addr.add r0 ((Int.toNat a2) * 3)) 2)) = (some (Value.int IntKind.u64 x4))) ∧ (∃ p5 : (Option Addr), ((H.cell? u (Addr.add r1 ((Int.toNat a1) * 3))) = (some (Value.pointer p5))) ∧ (∃ x6 : Int, ((H.cell? u (Addr.add (Addr.add r1 ((Int.toNat a1) * 3)) 1)) = (some (Value.int IntKind.u64 x6))) ∧ (∃ x7 : Int, ((H.cell? u (Addr.add (Addr.add r1 ((Int.toNat a1) * 3)) 2)) = (some (Value.int IntKind.u64 x7))) ∧ (∃ r8 : Addr, (a0.a = (some r8)) ∧ ((((0 : Int) ≤ a1) ∧ (a1 < (a0.n : Int))) ∧ (H.St u (Addr.add r8 ((Int.toNat a1) * 3)) [(Value.pointer p2), (Value.int IntKind.u64 x3), (Value.int IntKind.u64 x4)] (fun (u9 : H) => ∃ r10 : Addr, (a0.a = (some r10)) ∧ ((((0 : Int) ≤ a2) ∧ (a2 < (a0.n : Int))) ∧ (H.St u9 (Addr.add r10 ((Int.toNat a2) * 3)) [(Value.pointer p5), (Value.int IntKind.u64 x6), (Value.int IntKind.u64 x7)] (fun (u11 : H) => K u11))))))))))))))))) : C.flat_queue__Swap a0 a1 a2 u K :=
  fn_sound' (C := { P := Tryz.prog, exp := [], wrap := false, eqT := eqT, ent := [], nxt := [] }) (args := [(Value.slice a0.a a0.n a0.c), (Value.int IntKind.i64 a1), (Value.int IntKind.i64 a2)]) (good _ _) Tryz.func208 (by kernel_rfl) [] (by kernel_rfl) (by kernel_rfl) (Eq.mp (by kernel_rfl) h)
theorem vc.flat_queue__Pop (a0 : (Option Addr)) (u : H) (K : Value → H → Prop) (h : ∀ K0 : (Addr → (H → Prop)), (∀ r1 : Addr, ∀ u2 : H, (∃ r3 : Addr, (a0 = (some r3)) ∧ (∃ r4 : Addr, (a0 = (some r4)) ∧ (∃ s5 : Sl, ((H.cell? u2 r3) = (some (Value.slice s5.a s5.n s5.c))) ∧ (∃ s6 : Sl, ((H.cell? u2 r4) = (some (Value.slice s6.a s6.n s6.c))) ∧ ((InR ((s6.n : Int) - 1)) ∧ (SemT Tryz.prog (Instr.sliceAt 157 (Value.slice s5.a s5.n s5.c) none (some (Value.int IntKind.i64 ((s6.n : Int) - 1))) none) [(Sh.one CT.slice)] u2 (fun (s7 : Sl) (u8 : H) => ∃ r9 : Addr, (a0 = (some r9)) ∧ (H.St u8 r9 [(Value.slice s7.a s7.n s7.c)] (fun (u10 : H) => ∃ p11 : (Option Addr), ((H.cell? u10 r1) = (some (Value.pointer p11))) ∧ (∃ x12 : Int, ((H.cell? u10 (Addr.add r1 1)) = (some (Value.int IntKind.u64 x12))) ∧ (∃ x13 : Int, ((H.cell? u10 (Addr.add r1 2)) = (some (Value.int IntKind.u64 x13))) ∧ (K (Value.iface 160 (Value.agg #[(Value.pointer p11), (Value.int IntKind.u64 x12), (Value.int IntKind.u64 x13)])) u10)))))))))))) → K0 r1 u2) → ∃ r14 : Addr, (a0 = (some r14)) ∧ (∃ r15 : Addr, (a0 = (some r15)) ∧ (∃ s16 : Sl, ((H.cell? u r14) = (some (Value.slice s16.a s16.n s16.c))) ∧ (∃ s17 : Sl, ((H.cell? u r15) = (some (Value.slice s17.a s17.n s17.c))) ∧ ((InR ((s17.n : Int) - 1)) ∧ (∃ r18 : Addr, (s16.a = (some r18)) ∧ ((((0 : Int) ≤ ((s17.n : Int) - 1)) ∧ (((s17.n : Int) - 1) < (s16.n : Int))) ∧ (∃ p19 : (Option Addr), ((H.cell? u (Addr.add r18 ((Int.toNat ((s17.n : Int) - 1)) * 3))) = (some (Value.pointer p19))) ∧ (∃ x20 : Int, ((H.cell? u (Addr.add (Addr.add r18 ((Int.toNat ((s17.n : Int) - 1)) * 3)) 1)) = (some (Value.int IntKind.u64 x20))) ∧ (∃ x21 : Int, ((H.cell? u (Addr.add (Addr.add r18 ((Int.toNat ((s17.n : Int) - 1)) * 3)) 2)) = (some (Value.int IntKind.u64 x21))) ∧ (∀ n22 : Nat, ((u n22) = none) → (H.le u (u.ins n22 (Go.Obj.cells #[(Value.pointer none), (Value.int IntKind.u64 0), (Value.int IntKind.u64 0)] 160 (0, 0)))) ∧ (H.St (u.ins n22 (Go.Obj.cells #[(Value.pointer none), (Value.int IntKind.u64 0), (Value.int IntKind.u64 0)] 160 (0, 0))) (Addr.mk n22 0 none) [(Value.pointer p19), (Value.int IntKind.u64 x20), (Value.int IntKind.u64 x21)] (fun (u23 : H) => K0 (Addr.mk n22 0 none) u23))))))))))))) : C.flat_queue__Pop a0 u K :=
  fn_sound' (C := { P := Tryz.prog, exp := [3], wrap := false, eqT := eqT, ent := [], nxt := [] }) (args := [(Value.pointer a0)]) (good _ _) Tryz.func209 (by kernel_rfl) [(3, ⟨[(3, .addr)], []⟩)] (by kernel_rfl) (by kernel_rfl) (Eq.mp (by kernel_rfl) h)
theorem vc.flat_queue__Push (a0 : (Option Addr)) (a1 : Value) (u : H) (K : H → Prop) (h : ∃ r0 : Addr, (a0 = (some r0)) ∧ (∃ s1 : Sl, ((H.cell? u r0) = (some (Value.slice s1.a s1.n s1.c))) ∧ (SemT Tryz.prog (Instr.typeAssert a1 20 160 Bool.false) [(Sh.agg [CT.ptr, (CT.int IntKind.u64), (CT.int IntKind.u64)])] u (fun (p2 : (Option Addr)) (x3 : Int) (x4 : Int) (u5 : H) => (H.le u u5) ∧ (SemT Tryz.prog (Instr.buildSlice 157 1 #[(0, (Value.agg #[(Value.pointer p2), (Value.int IntKind.u64 x3), (Value.int IntKind.u64 x4)]))]) [(Sh.one CT.slice)] u5 (fun (s6 : Sl) (u7 : H) => (H.le u u7) ∧ (SemT Tryz.prog (Builtin.append_ #[157, 157] 157 #[(Value.slice s1.a s1.n s1.c), (Value.slice s6.a s6.n s6.c)]) [(Sh.one CT.slice)] u7 (fun (s8 : Sl) (u9 : H) => ∃ r10 : Addr, (a0 = (some r10)) ∧ (H.St u9 r10 [(Value.slice s8.a s8.n s8.c)] (fun (u11 : H) => K u11)))))))))) : C.flat_queue__Push a0 a1 u K :=
  fn_sound' (C := { P := Tryz.prog, exp := [], wrap := false, eqT := eqT, ent := [], nxt := [] }) (args := [(Value.pointer a0), a1]) (good _ _) Tryz.func210 (by kernel_rfl) [] (by kernel_rfl) (by kernel_rfl) (Eq.mp (by kernel_rfl) h)
end Go.Proofs.YtncninpdlpemgaaGreat

/- VcWide -/
namespace Go.Proofs.YtncninpdlpemgaaGreat

def U64 (x : Int) : Prop := 0 ≤ x ∧ x < 18446744073709551616

/-- What a Wide tells. -/
def wv (hi lo : Int) : Int := hi * 18446744073709551616 + lo

theorem spec.wide_Cmp {a b c d : Int} {u : H} {K : Int → H → Prop} (ha : U64 b) (hb : U64 d)
    (h : K (if wv a b < wv c d then -1 else if wv c d < wv a b then 1 else 0) u) : C.wide_Cmp a b c d u K := by
  apply vc.wide_Cmp
  have key : ∀ z, (if wv a b < wv c d then (-1 : Int) else if wv c d < wv a b then 1 else 0) = z → K z u := fun z e => e ▸ h
  simp only [U64, wv] at *
  refine ⟨fun h => key _ ?_, fun h => ⟨fun h1 => key _ ?_, fun h1 => ⟨fun h2 => ⟨fun h3 => key _ ?_, fun h3 => key _ ?_⟩, fun h2 => key _ ?_⟩⟩⟩
  all_goals (repeat' split) <;> omega

theorem add64 {a b c : Int} {u : H} {K : Int → Int → H → Prop} (ha : U64 a) (hb : U64 b) (hc0 : 0 ≤ c) (hc : c ≤ 1)
    (h : K ((a + b + c) % 18446744073709551616) ((a + b + c) / 18446744073709551616) u) :
    SemT Tryz.prog (callX 133 #[.int .u64 a, .int .u64 b, .int .u64 c]) [.one (.int .u64), .one (.int .u64)] u K := by
  refine SemT.pure [.int .u64 ((a + b + c) % 18446744073709551616), .int .u64 ((a + b + c) / 18446744073709551616)] (fun w _ => ?_) (.cons (t := .int .u64) _ (.cons (t := .int .u64) _ .nil)) h
  unfold callX
  rw [Sem.run_bind, run_callFunc_extern Tryz.func133 (by kernel_rfl) (by kernel_rfl) (by kernel_rfl) (e := add64Entry) (by kernel_rfl), run_add64 a b c ha.1 hb.1 hc0 hc]
  rfl

theorem spec.wide_Add {a b c d : Int} {u : H} {K : Int → Int → Int → H → Prop} (ha : U64 a) (hb : U64 b) (hc : U64 c) (hd : U64 d)
    (h1 : ∀ x y, U64 x → U64 y → wv x y = wv a b + wv c d → K x y 0 u) (h2 : 340282366920938463463374607431768211456 ≤ wv a b + wv c d → K 0 0 10 u) : C.wide_Add a b c d u K := by
  apply vc.wide_Add
  simp only [U64, wv] at *
  refine add64 hb hd (by omega) (by omega) (add64 ha hc (by omega) (by omega) ⟨fun h => h2 (by omega), fun h => h1 _ _ (by omega) (by omega) (by omega)⟩)

theorem spec.bits_Mul64 {a b : Int} {u : H} {K : Int → Int → H → Prop} (ha : U64 a) (hb : U64 b)
    (h : K (a * b / 18446744073709551616) (a * b % 18446744073709551616) u) : C.bits_Mul64 a b u K := by
  apply vc.bits_Mul64
  refine ⟨by omega, by omega, by omega, by omega, by omega, ?_⟩
  have e := mul64_arith a b ha.1 ha.2 hb.1 hb.2
  have w : ∀ z, IntKind.wrap .u64 z = z % 18446744073709551616 := IntKind.wrap_u64
  have al : ∀ z, 0 ≤ z → z < 18446744073709551616 → bits .and .u64 z 4294967295 = z % 4294967296 := and_low32
  have p : (2 : Int) ^ 32 = 4294967296 := by decide
  have fd : ∀ z : Int, Int.fdiv z 4294967296 = z / 4294967296 := fun z => Int.fdiv_eq_ediv_of_nonneg z (by decide)
  simp only [w, p, fd, al a ha.1 ha.2, al b hb.1 hb.2]
  rw [al _ (by omega) (by omega), e]
  exact h

theorem spec.wide_Mul {a b : Int} {u : H} {K : Int → Int → H → Prop} (ha : U64 a) (hb : U64 b)
    (h : ∀ x y, U64 x → U64 y → wv x y = a * b → K x y u) : C.wide_Mul a b u K := by
  apply vc.wide_Mul
  refine spec.bits_Mul64 ha hb (h _ _ ?_ ?_ ?_)
  · obtain ⟨h1, h2⟩ := ha
    obtain ⟨h3, h4⟩ := hb
    have := Int.mul_nonneg h1 h3
    have : a * b ≤ 18446744073709551615 * 18446744073709551615 := Int.mul_le_mul (by omega) (by omega) h3 (by omega)
    constructor <;> omega
  · constructor <;> omega
  · unfold wv; omega

/-- A coordinate as it must be. -/
def coordOk (x : Int) : Prop := -2147483647 ≤ x ∧ x ≤ 2147483647
instance (x : Int) : Decidable (coordOk x) := inferInstanceAs (Decidable (_ ∧ _))

/-- The square of a difference. -/
def sqd (x y : Int) : Int := (x - y) * (x - y)

theorem spec.vec_plus {a b x y : Int} {u : H} {K : Int → Int → H → Prop} (ha : U64 a) (hb : U64 b) (hx : coordOk x) (hy : coordOk y)
    (hs : wv a b + 18446744073709551616 < 340282366920938463463374607431768211456)
    (h : ∀ c d, U64 c → U64 d → wv c d = wv a b + sqd x y → K c d u) : C.vec_plus a b x y u K := by
  apply vc.vec_plus
  have e : (ite (y > x) y x) - (ite (y < x) y x) = if x < y then y - x else x - y := by (repeat' split) <;> omega
  rw [e]
  unfold coordOk at hx hy
  have d1 : ∃ z : Int, z = (if x < y then y - x else x - y) ∧ 0 ≤ z ∧ z ≤ 4294967294 ∧ z * z = sqd x y := by
    refine ⟨_, rfl, ?_, ?_, ?_⟩
    · split <;> omega
    · split <;> omega
    · unfold sqd; split <;> grind
  obtain ⟨z, hz, h0, h2, h3⟩ := d1
  rw [← hz]
  refine ⟨⟨by omega, by omega⟩, ?_⟩
  have hw : IntKind.wrap .u64 z = z := IntWalk.u64_in z ⟨h0, by omega⟩
  rw [hw]
  have hz : U64 z := ⟨h0, by omega⟩
  refine spec.wide_Mul hz hz fun p q hp hq he => ⟨H.le.refl u, ?_⟩
  have hzz : 0 ≤ z * z ∧ z * z ≤ 18446744056529682436 := ⟨Int.mul_nonneg h0 h0, by have := Int.mul_le_mul h2 h2 h0 (by omega); omega⟩
  refine spec.wide_Add ha hb hp hq (fun c d hc hd hcd => h c d hc hd (by rw [hcd, he, h3])) fun hh => ?_
  exfalso
  omega

theorem sqd_le {x y : Int} (hx : coordOk x) (hy : coordOk y) : 0 ≤ sqd x y ∧ sqd x y ≤ 18446744056529682436 := by
  unfold coordOk at hx hy
  unfold sqd
  constructor
  · rcases Int.le_total 0 (x - y) with h | h
    · exact Int.mul_nonneg h h
    · exact Int.mul_nonneg_of_nonpos_of_nonpos h h
  · rcases Int.le_total 0 (x - y) with h | h
    · have := Int.mul_le_mul (show x - y ≤ 4294967294 by omega) (show x - y ≤ 4294967294 by omega) h (by omega); omega
    · have e : (x - y) * (x - y) = (y - x) * (y - x) := by grind
      have := Int.mul_le_mul (show y - x ≤ 4294967294 by omega) (show y - x ≤ 4294967294 by omega) (by omega) (by omega); omega

/-! ### layer 3 -/

/-- What a vector's test answers. -/
def vcheck (l : List Int) (d : Int) : Int :=
  if 1 ≤ d ∧ d ≤ 64 ∧ (l.length : Int) = d then (if ∀ i, i < l.length → coordOk (l.getD i 0) then 0 else 31) else 30

theorem spec.vec_dim {d : Int} {u : H} {K : Bool → H → Prop} (h : K (decide (1 ≤ d ∧ d ≤ 64)) u) : C.vec_dim d u K := by
  apply vc.vec_dim
  refine ⟨fun h1 => ?_, fun h1 => ?_⟩
  · have : @decide (d ≤ 64) (@inferInstance _ (Int.decLe d 64)) = decide (1 ≤ d ∧ d ≤ 64) := by simp [h1]
    rw [this]; exact h
  · have : decide (1 ≤ d ∧ d ≤ 64) = false := by simp; omega
    rw [this] at h; exact h

theorem spec.vec_Check {s : Sl} {l : List Int} {d : Int} {u : H} {K : Int → H → Prop} (hs : Ints u s l) (h : K (vcheck l d) u) : C.vec_Check s d u K := by
  have key : ∀ z, vcheck l d = z → K z u := fun z e => e ▸ h
  have hn := hs.len
  have hmx := hs.max
  apply vc.vec_Check
  intro K0 hK0
  refine spec.vec_dim ⟨fun hb => key _ ?_, fun hb => ⟨fun hl => key _ ?_, fun hl => hK0 _ _ ?_⟩⟩
  · have : ¬ (1 ≤ d ∧ d ≤ 64) := by simpa using hb
    unfold vcheck; rw [if_neg (fun h => this ⟨h.1, h.2.1⟩)]
  · unfold vcheck; rw [if_neg (fun h => hl (by rw [hn]; exact h.2.2))]
  · have hd : 1 ≤ d ∧ d ≤ 64 := by simpa using hb
    have hv : vcheck l d = if ∀ i, i < l.length → coordOk (l.getD i 0) then 0 else 31 := by unfold vcheck; rw [if_pos ⟨hd.1, hd.2, by rw [← hl, hn]⟩]
    refine ⟨fun _ i u' => u' = u ∧ 0 ≤ i ∧ i ≤ (s.n : Int) ∧ ∀ j, j < i.toNat → coordOk (l.getD j 0), fun _ i _ => s.n - i.toNat, ⟨rfl, by omega, by omega, fun j hj => by simp at hj⟩, ?_⟩
    rintro _ i u' ⟨rfl, h0, h1, hp⟩
    refine ⟨fun hi => ?_, fun hi => key _ ?_⟩
    · obtain ⟨p, hp', hc⟩ := hs.at h0 hi
      have bad : ¬ coordOk (l.getD i.toNat 0) → K 31 u' := fun hb => key _ (by rw [hv, if_neg (fun hall => hb (hall _ (by omega)))])
      refine ⟨p, hp', ⟨h0, hi⟩, _, hc, fun hx => bad (fun hb => by unfold coordOk at hb; omega), fun hx => ⟨fun hy => bad (fun hb => by unfold coordOk at hb; omega), fun hy => ⟨⟨by omega, by omega⟩, ⟨rfl, by omega, by omega, ?_⟩, by dsimp only; omega⟩⟩⟩
      intro j hj
      rcases Nat.lt_or_ge j i.toNat with hj' | hj'
      · exact hp j hj'
      · have : j = i.toNat := by omega
        subst this
        exact ⟨by omega, by omega⟩
    · rw [hv, if_pos]
      intro j hj
      exact hp j (by omega)

theorem spec.theodoliteref03_Check {s : Sl} {l : List Int} {d : Int} {u : H} {K : Int → H → Prop} (hs : Ints u s l) (h : K (vcheck l d) u) : C.theodoliteref03_Check s d u K := by
  have key : ∀ z, vcheck l d = z → K z u := fun z e => e ▸ h
  have hn := hs.len
  have hmx := hs.max
  apply vc.theodoliteref03_Check
  intro K0 hK0
  refine ⟨fun hb => key _ ?_, fun hb => ⟨fun hb2 => key _ ?_, fun hb2 => ⟨fun hl => key _ ?_, fun hl => hK0 _ _ ?_⟩⟩⟩
  · unfold vcheck; rw [if_neg (fun h => by omega)]
  · unfold vcheck; rw [if_neg (fun h => by omega)]
  · unfold vcheck; rw [if_neg (fun h => hl (by rw [hn]; exact h.2.2))]
  · have hv : vcheck l d = if ∀ i, i < l.length → coordOk (l.getD i 0) then 0 else 31 := by unfold vcheck; rw [if_pos ⟨by omega, by omega, by rw [← hl, hn]⟩]
    refine ⟨fun _ i u' => u' = u ∧ 0 ≤ i ∧ i ≤ (s.n : Int) ∧ ∀ j, j < i.toNat → coordOk (l.getD j 0), fun _ i _ => s.n - i.toNat, ⟨rfl, by omega, by omega, fun j hj => by simp at hj⟩, ?_⟩
    rintro _ i u' ⟨rfl, h0, h1, hp⟩
    refine ⟨fun hi => ?_, fun hi => key _ ?_⟩
    · obtain ⟨p, hp', hc⟩ := hs.at h0 hi
      have bad : ¬ coordOk (l.getD i.toNat 0) → K 31 u' := fun hb => key _ (by rw [hv, if_neg (fun hall => hb (hall _ (by omega)))])
      refine ⟨p, hp', ⟨h0, hi⟩, _, hc, fun hx => bad (fun hb => by unfold coordOk at hb; omega), fun hx => ⟨p, hp', ⟨h0, hi⟩, _, hc, fun hy => bad (fun hb => by unfold coordOk at hb; omega), fun hy => ⟨⟨by omega, by omega⟩, ⟨rfl, by omega, by omega, ?_⟩, by dsimp only; omega⟩⟩⟩
      intro j hj
      rcases Nat.lt_or_ge j i.toNat with hj' | hj'
      · exact hp j hj'
      · have : j = i.toNat := by omega
        subst this
        exact ⟨by omega, by omega⟩
    · rw [hv, if_pos]
      intro j hj
      exact hp j (by omega)

/-- The sum of the squares of the first n differences. -/
def sqTo (a b : List Int) : Nat → Int
  | 0 => 0
  | n + 1 => sqTo a b n + sqd (a.getD n 0) (b.getD n 0)

/-- A vector as it must be. -/
def vok (l : List Int) : Prop := l.length ≤ 64 ∧ ∀ i, i < l.length → coordOk (l.getD i 0)

theorem sqTo_le {a b : List Int} (ha : vok a) (hb : vok b) : ∀ n, n ≤ a.length → n ≤ b.length → 0 ≤ sqTo a b n ∧ sqTo a b n ≤ n * 18446744056529682436 := by
  intro n
  induction n with
  | zero => intro _ _; simp [sqTo]
  | succ n ih =>
    intro h1 h2
    obtain ⟨i1, i2⟩ := ih (by omega) (by omega)
    have := sqd_le (ha.2 n (by omega)) (hb.2 n (by omega))
    simp only [sqTo]
    constructor <;> omega

theorem spec.vec_far {s t : Sl} {a b : List Int} {u : H} {K : Int → Int → H → Prop} (hs : Ints u s a) (ht : Ints u t b) (ha : vok a) (hb : vok b) (hl : a.length = b.length)
    (h : ∀ x y, U64 x → U64 y → wv x y = sqTo a b a.length → K x y u) : C.vec_far s t u K := by
  have hn := hs.len
  have hm := ht.len
  have h64 := ha.1
  apply vc.vec_far
  refine ⟨fun i x y u' => u' = u ∧ 0 ≤ i ∧ i ≤ (s.n : Int) ∧ U64 x ∧ U64 y ∧ wv x y = sqTo a b i.toNat, fun i _ _ _ => s.n - i.toNat, ⟨rfl, by omega, by omega, ⟨by omega, by omega⟩, ⟨by omega, by omega⟩, rfl⟩, ?_⟩
  rintro i x y u' ⟨rfl, h0, h1, hx, hy, hw⟩
  refine ⟨fun hi => ?_, fun hi => ?_⟩
  · obtain ⟨p, hp, hc⟩ := hs.at h0 hi
    obtain ⟨q, hq, hd⟩ := ht.at h0 (show i < (t.n : Int) by omega)
    have hle := sqTo_le ha hb i.toNat (by omega) (by omega)
    refine ⟨p, hp, ⟨h0, hi⟩, q, hq, ⟨h0, by omega⟩, _, hc, _, hd, spec.vec_plus hx hy (ha.2 _ (by omega)) (hb.2 _ (by omega)) (by omega) fun c d hc hd hcd => ⟨⟨by omega, by omega⟩, ⟨rfl, by omega, by omega, hc, hd, ?_⟩, by dsimp only; omega⟩⟩
    rw [hcd, hw, show (i + 1).toNat = i.toNat + 1 by omega]
    rfl
  · have : i.toNat = a.length := by omega
    exact h x y hx hy (by rw [hw, this])

theorem spec.theodoliteref03_Sum {a b c d : Int} {u : H} {K : Int → Int → H → Prop} (ha : U64 a) (hb : U64 b) (hc : U64 c) (hd : U64 d) (hs : wv a b + wv c d < 340282366920938463463374607431768211456)
    (h : ∀ x y, U64 x → U64 y → wv x y = wv a b + wv c d → K x y u) : C.theodoliteref03_Sum a b c d u K := by
  apply vc.theodoliteref03_Sum
  simp only [IntKind.wrap_u64, U64, wv] at *
  exact ⟨fun hlt => h _ _ (by omega) (by omega) (by omega), fun hlt => h _ _ (by omega) (by omega) (by omega)⟩

theorem spec.theodoliteref03_Square {z : Int} {u : H} {K : Int → Int → H → Prop} (hz : -4294967294 ≤ z ∧ z ≤ 4294967294) (h : K 0 (z * z) u) : C.theodoliteref03_Square z u K := by
  apply vc.theodoliteref03_Square
  intro K0 hK0
  have key : ∀ x : Int, 0 ≤ x → x ≤ 4294967294 → x * x = z * z → K 0 (IntKind.wrap .u64 (IntKind.wrap .u64 x * IntKind.wrap .u64 x)) u := by
    intro x h0 h1 hx
    have hw : IntKind.wrap .u64 x = x := IntWalk.u64_in x ⟨h0, by omega⟩
    have hxx : 0 ≤ x * x ∧ x * x ≤ 18446744056529682436 := ⟨Int.mul_nonneg h0 h0, by have := Int.mul_le_mul h1 h1 h0 (by omega); omega⟩
    rw [hw, IntWalk.u64_in (x * x) ⟨hxx.1, by omega⟩, hx]
    exact h
  refine ⟨fun hn => hK0 _ _ ?_, fun hn => hK0 _ _ (key _ (by omega) (by omega) rfl)⟩
  rw [IntWalk.i64_in (0 - z) (by omega)]
  exact key _ (by omega) (by omega) (by grind)

theorem spec.theodoliteref03_Far {s t : Sl} {a b : List Int} {u : H} {K : Int → Int → H → Prop} (hs : Ints u s a) (ht : Ints u t b) (ha : vok a) (hb : vok b) (hl : a.length = b.length)
    (h : ∀ x y, U64 x → U64 y → wv x y = sqTo a b a.length → K x y u) : C.theodoliteref03_Far s t u K := by
  have hn := hs.len
  have hm := ht.len
  have h64 := ha.1
  apply vc.theodoliteref03_Far
  refine ⟨fun i x y u' => u' = u ∧ 0 ≤ i ∧ i ≤ (s.n : Int) ∧ U64 x ∧ U64 y ∧ wv x y = sqTo a b i.toNat, fun i _ _ _ => s.n - i.toNat, ⟨rfl, by omega, by omega, ⟨by omega, by omega⟩, ⟨by omega, by omega⟩, rfl⟩, ?_⟩
  rintro i x y u' ⟨rfl, h0, h1, hx, hy, hw⟩
  refine ⟨fun hi => ?_, fun hi => ?_⟩
  · obtain ⟨p, hp, hc⟩ := hs.at h0 hi
    obtain ⟨q, hq, hd⟩ := ht.at h0 (show i < (t.n : Int) by omega)
    have hle := sqTo_le ha hb i.toNat (by omega) (by omega)
    have c1 := ha.2 i.toNat (by omega)
    have c2 := hb.2 i.toNat (by omega)
    have hsq := sqd_le c1 c2
    unfold coordOk at c1 c2
    refine ⟨p, hp, ⟨h0, hi⟩, q, hq, ⟨h0, by omega⟩, _, hc, _, hd, ⟨by omega, by omega⟩, spec.theodoliteref03_Square (by omega) ⟨H.le.refl _, ?_⟩⟩
    have hu : U64 ((a.getD i.toNat 0 - b.getD i.toNat 0) * (a.getD i.toNat 0 - b.getD i.toNat 0)) := ⟨hsq.1, by have := hsq.2; unfold sqd at this; omega⟩
    have hwv : wv 0 ((a.getD i.toNat 0 - b.getD i.toNat 0) * (a.getD i.toNat 0 - b.getD i.toNat 0)) = sqd (a.getD i.toNat 0) (b.getD i.toNat 0) := by unfold wv sqd; omega
    refine spec.theodoliteref03_Sum hx hy ⟨by omega, by omega⟩ hu (by rw [hwv]; omega) fun c d hc hd hcd => ⟨⟨by omega, by omega⟩, ⟨rfl, by omega, by omega, hc, hd, ?_⟩, by dsimp only; omega⟩
    rw [hcd, hw, hwv, show (i + 1).toNat = i.toNat + 1 by omega]
    rfl
  · have : i.toNat = a.length := by omega
    exact h x y hx hy (by rw [hw, this])

end Go.Proofs.YtncninpdlpemgaaGreat

/- VcHits -/
namespace Go.Proofs.YtncninpdlpemgaaGreat

/-- A hit: an id, and a distance. -/
abbrev Hit := Int × Int

def hlt (a b : Hit) : Bool := decide (a.2 < b.2) || (decide (a.2 = b.2) && decide (a.1 < b.1))

theorem hlt_iff {a b : Hit} : hlt a b = true ↔ a.2 < b.2 ∨ (a.2 = b.2 ∧ a.1 < b.1) := by simp [hlt]
theorem hlt_not {a b : Hit} : hlt a b = false ↔ b.2 < a.2 ∨ (b.2 = a.2 ∧ b.1 ≤ a.1) := by
  rw [← Bool.not_eq_true, hlt_iff]; omega

theorem hlt_irrefl (a : Hit) : hlt a a = false := hlt_not.2 (.inr ⟨rfl, Int.le_refl _⟩)
theorem hlt_asymm {a b : Hit} (h : hlt a b = true) : hlt b a = false := by rw [hlt_iff] at h; rw [hlt_not]; omega
theorem hlt_le_trans {a b c : Hit} (h : hlt b a = false) (k : hlt c b = false) : hlt c a = false := by rw [hlt_not] at *; omega
theorem hlt_lt_trans {a b c : Hit} (h : hlt a b = true) (k : hlt b c = true) : hlt a c = true := by rw [hlt_iff] at *; omega
theorem hlt_lt_le {a b c : Hit} (h : hlt a b = true) (k : hlt c b = false) : hlt a c = true := by rw [hlt_iff] at *; rw [hlt_not] at k; omega
theorem hlt_le_lt {a b c : Hit} (h : hlt b a = false) (k : hlt b c = true) : hlt a c = true := by rw [hlt_iff] at *; rw [hlt_not] at h; omega
theorem hlt_eq {a b : Hit} (h : hlt b a = false) (k : hlt a b = false) : a = b := by
  rw [hlt_not] at *
  obtain ⟨a1, a2⟩ := a
  obtain ⟨b1, b2⟩ := b
  simp only [Prod.mk.injEq] at *
  omega

/-- In their order. -/
def Srt (l : List Hit) : Prop := l.Pairwise fun a b => hlt b a = false

theorem Srt.eq {a b : List Hit} (ha : Srt a) (hb : Srt b) (h : a.Perm b) : a = b :=
  h.eq_of_pairwise (le := fun x y => hlt y x = false) (fun _ _ _ _ h k => hlt_eq h k) ha hb

def insH (h : Hit) : List Hit → List Hit
  | [] => [h]
  | x :: l => if hlt h x then h :: x :: l else x :: insH h l

def sortH : List Hit → List Hit
  | [] => []
  | h :: l => insH h (sortH l)

theorem insH_perm (h : Hit) (l : List Hit) : (insH h l).Perm (h :: l) := by
  induction l with
  | nil => exact .refl _
  | cons x l ih =>
    simp only [insH]
    split
    · exact .refl _
    · exact ((List.Perm.cons x ih).trans (List.Perm.swap h x l))

theorem insH_srt {h : Hit} {l : List Hit} (hl : Srt l) : Srt (insH h l) := by
  induction l with
  | nil => exact List.pairwise_singleton _ _
  | cons x l ih =>
    have h1 := List.pairwise_cons.1 hl
    simp only [insH]
    split
    · rename_i hx
      refine List.pairwise_cons.2 ⟨fun y hy => ?_, hl⟩
      rcases List.mem_cons.1 hy with rfl | hy
      · exact hlt_asymm hx
      · exact hlt_le_trans (hlt_asymm hx) (h1.1 y hy)
    · rename_i hx
      refine List.pairwise_cons.2 ⟨fun y hy => ?_, ih h1.2⟩
      rcases List.mem_cons.1 ((insH_perm h l).mem_iff.1 hy) with rfl | hy
      · simpa using hx
      · exact h1.1 y hy

theorem sortH_perm (l : List Hit) : (sortH l).Perm l := by
  induction l with
  | nil => exact .refl _
  | cons x l ih => exact (insH_perm x _).trans (List.Perm.cons x ih)

theorem sortH_srt (l : List Hit) : Srt (sortH l) := by
  induction l with
  | nil => exact List.Pairwise.nil
  | cons x l ih => exact insH_srt ih

theorem sortH_eq {a b : List Hit} (h : a.Perm b) : sortH a = sortH b :=
  (sortH_srt a).eq (sortH_srt b) ((sortH_perm a).trans (h.trans (sortH_perm b).symm))

theorem sortH_of {a b : List Hit} (h : a.Perm b) (hs : Srt a) : a = sortH b := hs.eq (sortH_srt b) (h.trans (sortH_perm b).symm)

theorem sortH_len (l : List Hit) : (sortH l).length = l.length := (sortH_perm l).length_eq

/-- The first so many. -/
def topk (k : Nat) (l : List Hit) : List Hit := (sortH l).take k

theorem topk_srt (k : Nat) (l : List Hit) : Srt (topk k l) := List.Pairwise.sublist (List.take_sublist _ _) (sortH_srt l)
theorem topk_len (k : Nat) (l : List Hit) : (topk k l).length = min k l.length := by simp [topk, sortH_len]
theorem topk_eq {k : Nat} {a b : List Hit} (h : a.Perm b) : topk k a = topk k b := by simp only [topk, sortH_eq h]

theorem Srt.append {a b : List Hit} (h : Srt (a ++ b)) : Srt a ∧ Srt b ∧ ∀ x ∈ a, ∀ y ∈ b, hlt y x = false := List.pairwise_append.1 h

theorem insH_take (h : Hit) : ∀ (k : Nat) (l : List Hit), (insH h l).take k = (insH h (l.take k)).take k := by
  intro k l
  induction l generalizing k with
  | nil => simp
  | cons x l ih =>
    cases k with
    | zero => simp
    | succ k =>
      simp only [insH, List.take_succ_cons]
      split
      · simp only [List.take_succ_cons]
        cases k with
        | zero => simp
        | succ k => simp only [List.take_succ_cons, List.take_take]; congr 3; omega
      · simp only [List.take_succ_cons, ih k]

theorem topk_cons (k : Nat) (x : Hit) (l : List Hit) : topk k (x :: l) = topk k (x :: topk k l) := by
  have h : sortH (topk k l) = topk k l := (sortH_of (.refl _) (topk_srt k l)).symm
  show (insH x (sortH l)).take k = (insH x (sortH (topk k l))).take k
  rw [h, insH_take]
  rfl

/-- A heap's list that holds the first k: one more is offered, and there is room. -/
theorem topk_room {k : Nat} {l : List Hit} {x : Hit} (h : l.length < k) : (topk k (x :: l)).Perm (x :: l) ∧ (topk k l).Perm l := by
  have e : ∀ m : List Hit, m.length ≤ k → topk k m = sortH m := fun m hm => List.take_of_length_le (by rw [sortH_len]; exact hm)
  rw [e _ (by simp; omega), e _ (by omega)]
  exact ⟨sortH_perm _, sortH_perm _⟩

/-- No room, and not below the worst. -/
theorem topk_worse {k : Nat} {l : List Hit} {x : Hit} (hk : k ≤ l.length) (h : ∀ y ∈ topk k l, hlt x y = false) : topk k (x :: l) = topk k l := by
  show (insH x (sortH l)).take k = (sortH l).take k
  have key : ∀ (k : Nat) (s : List Hit), k ≤ s.length → (∀ y ∈ s.take k, hlt x y = false) → (insH x s).take k = s.take k := by
    intro k s
    induction s generalizing k with
    | nil => intro hk _; have : k = 0 := by simpa using hk
             subst this; simp
    | cons y s ih =>
      intro hk h
      cases k with
      | zero => simp
      | succ k =>
        have h0 := h y (by simp)
        simp only [insH, h0, Bool.false_eq_true, if_false, List.take_succ_cons]
        rw [ih k (by simpa using hk) (fun z hz => h z (by simp [hz]))]
  exact key k _ (by rw [sortH_len]; exact hk) h

/-- No room, and below the worst, which goes. -/
theorem topk_better {k : Nat} {l t : List Hit} {x m : Hit} (hp : (m :: t).Perm (topk k l)) (hm : ∀ y ∈ m :: t, hlt m y = false) (hx : hlt x m = true) (hk : (topk k l).length = k) :
    (x :: t).Perm (topk k (x :: l)) := by
  rw [topk_cons]
  have h1 : topk k (x :: topk k l) = topk k (m :: x :: t) := topk_eq ((List.Perm.cons x hp.symm).trans (List.Perm.swap _ _ _))
  have hl : t.length + 1 = k := by rw [← hk, ← hp.length_eq]; simp
  have h2 : topk k (m :: x :: t) = topk k (x :: t) := by
    refine topk_worse (by simp [hl]) fun y hy => ?_
    have : y ∈ x :: t := (sortH_perm _).mem_iff.1 (List.mem_of_mem_take hy)
    rcases List.mem_cons.1 this with rfl | h
    · exact hlt_asymm hx
    · exact hm y (by simp [h])
  rw [h1, h2]
  have e : topk k (x :: t) = sortH (x :: t) := List.take_of_length_le (by rw [sortH_len]; simp [hl])
  rw [e]
  exact (sortH_perm _).symm

end Go.Proofs.YtncninpdlpemgaaGreat

/- VcRef -/
namespace Go.Proofs.YtncninpdlpemgaaGreat

/-! ### what is left behind by a call that nobody needs to know of -/

theorem Step.shrink {u u' : H} {bs bs' : List Nat} {w w' : World} (h : Step u bs w u' bs' w') (k : u.le u') : Step u bs w u bs' w' :=
  ⟨h.sub.mono k, h.os, h.tape, h.output, h.drawn, h.size, h.rest, fun _ _ e => e, h.more⟩

def kF (u : H) : (ts : List CT) → Cur ts (H → Prop) → Cur ts (H → Prop)
  | [], r => fun u' => u.le u' ∧ r u
  | _ :: ts, K => fun x => kF u ts (K x)

theorem unC_kF {u u' : H} : ∀ (ts : List CT) (K : Cur ts (H → Prop)) (vs : List Value), (unC ts (kF u ts K) vs fun r => r u') → Kinds ts vs → u.le u' ∧ unC ts K vs fun r => r u := by
  intro ts
  induction ts with
  | nil => intro K vs h k; cases k; exact h
  | cons t ts ih =>
    intro K vs h k
    cases k with
    | cons x kr =>
      simp only [unC, CT.un_enc] at h ⊢
      exact ih (K x) _ h kr

theorem ClT.forget {P : Program} {f : FuncId} {args : Array Value} {ss : List Sh} {u : H} {K : Cur (ctsOf ss) (H → Prop)} (h : ClT P f args ss u (kF u (ctsOf ss) K)) : ClT P f args ss u K := by
  intro w hw
  refine (h w hw).mono ?_
  rintro e w' ⟨v, u', he, ⟨vs, hk, hv, hc⟩, hs⟩
  obtain ⟨hle, hc'⟩ := unC_kF _ _ _ hc hk
  exact ⟨v, u, he, ⟨vs, hk, hv, hc'⟩, hs.shrink hle⟩

/-! ### numbers as digits -/

def dg (x : Int) (i : Nat) : Int := x / (65536 ^ i : Nat) % 65536

theorem dg_lt (x : Int) (i : Nat) : 0 ≤ dg x i ∧ dg x i < 65536 := by unfold dg; omega

theorem spec.theodoliteref01_Cmp {a0 a1 a2 a3 a4 a5 a6 a7 b0 b1 b2 b3 b4 b5 b6 b7 : Int} {o p : Bool} {u : H} {K : Int → H → Prop}
    (h : (a7 = b7 → a6 = b6 → a5 = b5 → a4 = b4 → a3 = b3 → a2 = b2 → a1 = b1 → a0 = b0 → K 0 u)
      ∧ ((a7 < b7 ∨ a7 = b7 ∧ (a6 < b6 ∨ a6 = b6 ∧ (a5 < b5 ∨ a5 = b5 ∧ (a4 < b4 ∨ a4 = b4 ∧ (a3 < b3 ∨ a3 = b3 ∧ (a2 < b2 ∨ a2 = b2 ∧ (a1 < b1 ∨ a1 = b1 ∧ a0 < b0))))))) → K (-1) u)
      ∧ ((b7 < a7 ∨ a7 = b7 ∧ (b6 < a6 ∨ a6 = b6 ∧ (b5 < a5 ∨ a5 = b5 ∧ (b4 < a4 ∨ a4 = b4 ∧ (b3 < a3 ∨ a3 = b3 ∧ (b2 < a2 ∨ a2 = b2 ∧ (b1 < a1 ∨ a1 = b1 ∧ b0 < a0))))))) → K 1 u)) :
    C.theodoliteref01_Cmp a0 a1 a2 a3 a4 a5 a6 a7 o b0 b1 b2 b3 b4 b5 b6 b7 p u K := by
  refine ClT.forget (ss := [.one (.int .i64)]) ?_
  apply vc.theodoliteref01_Cmp
  intro n hn m hm
  have hnm : m ≠ n := fun e => by rw [e, H.ins_same] at hm; cases hm
  generalize hu' : ((u.ins n _).ins m _) = u'
  have hle : u.le u' := by subst hu'; exact (H.le_ins _ hn).trans (H.le_ins _ hm)
  have ca : ∀ j v, (#[Value.int .i64 a0, .int .i64 a1, .int .i64 a2, .int .i64 a3, .int .i64 a4, .int .i64 a5, .int .i64 a6, .int .i64 a7, .bool o] : Array Value)[j]? = some v → u'.cell? ⟨n, j, none⟩ = some v := by
    intro j v hv
    subst hu'
    exact (H.cell?_of (by rw [H.ins_other _ _ (Ne.symm hnm)]; exact H.ins_same _ _ _) j).trans hv
  have cb : ∀ j v, (#[Value.int .i64 b0, .int .i64 b1, .int .i64 b2, .int .i64 b3, .int .i64 b4, .int .i64 b5, .int .i64 b6, .int .i64 b7, .bool p] : Array Value)[j]? = some v → u'.cell? ⟨m, j, none⟩ = some v := by
    intro j v hv
    subst hu'
    exact (H.cell?_of (H.ins_same _ _ _) j).trans hv
  clear hu' hm hn
  obtain ⟨h0, h1, h2⟩ := h
  refine ⟨fun _ i v => v = u' ∧ -1 ≤ i ∧ i ≤ 7 ∧ (i < 7 → a7 = b7) ∧ (i < 6 → a6 = b6) ∧ (i < 5 → a5 = b5) ∧ (i < 4 → a4 = b4) ∧ (i < 3 → a3 = b3) ∧ (i < 2 → a2 = b2) ∧ (i < 1 → a1 = b1) ∧ (i < 0 → a0 = b0),
    fun _ i _ => (i + 1).toNat, ⟨rfl, by omega, by omega, by omega, by omega, by omega, by omega, by omega, by omega, by omega, by omega⟩, ?_⟩
  rintro _ i v ⟨rfl, l0, l1, e7, e6, e5, e4, e3, e2, e1, e0⟩
  refine ⟨fun hi => ?_, fun hi => ⟨hle, h0 (e7 (by omega)) (e6 (by omega)) (e5 (by omega)) (e4 (by omega)) (e3 (by omega)) (e2 (by omega)) (e1 (by omega)) (e0 (by omega))⟩⟩
  obtain ⟨x, y, cx, cy, k1, k2, k3⟩ : ∃ x y : Int, v.cell? ((Addr.mk n 0 none).add (i.toNat * 1)) = some (.int .i64 x) ∧ v.cell? ((Addr.mk m 0 none).add (i.toNat * 1)) = some (.int .i64 y) ∧
      (x < y → K (-1) u) ∧ (y < x → K 1 u) ∧ (x = y → -1 ≤ (i-1) ∧ (i-1) ≤ 7 ∧ ((i-1) < 7 → a7 = b7) ∧ ((i-1) < 6 → a6 = b6) ∧ ((i-1) < 5 → a5 = b5) ∧ ((i-1) < 4 → a4 = b4) ∧ ((i-1) < 3 → a3 = b3) ∧ ((i-1) < 2 → a2 = b2) ∧ ((i-1) < 1 → a1 = b1) ∧ ((i-1) < 0 → a0 = b0)) := by
    have hc : i = 0 ∨ i = 1 ∨ i = 2 ∨ i = 3 ∨ i = 4 ∨ i = 5 ∨ i = 6 ∨ i = 7 := by omega
    rcases hc with rfl | rfl | rfl | rfl | rfl | rfl | rfl | rfl
    · exact ⟨_, _, ca 0 _ rfl, cb 0 _ rfl, fun hl => h1 (by omega), fun hl => h2 (by omega), fun he => by omega⟩
    · exact ⟨_, _, ca 1 _ rfl, cb 1 _ rfl, fun hl => h1 (by omega), fun hl => h2 (by omega), fun he => by omega⟩
    · exact ⟨_, _, ca 2 _ rfl, cb 2 _ rfl, fun hl => h1 (by omega), fun hl => h2 (by omega), fun he => by omega⟩
    · exact ⟨_, _, ca 3 _ rfl, cb 3 _ rfl, fun hl => h1 (by omega), fun hl => h2 (by omega), fun he => by omega⟩
    · exact ⟨_, _, ca 4 _ rfl, cb 4 _ rfl, fun hl => h1 (by omega), fun hl => h2 (by omega), fun he => by omega⟩
    · exact ⟨_, _, ca 5 _ rfl, cb 5 _ rfl, fun hl => h1 (by omega), fun hl => h2 (by omega), fun he => by omega⟩
    · exact ⟨_, _, ca 6 _ rfl, cb 6 _ rfl, fun hl => h1 (by omega), fun hl => h2 (by omega), fun he => by omega⟩
    · exact ⟨_, _, ca 7 _ rfl, cb 7 _ rfl, fun hl => h1 (by omega), fun hl => h2 (by omega), fun he => by omega⟩
  refine ⟨by decide, ⟨hi, by omega⟩, by decide, ⟨hi, by omega⟩, x, cx, y, cy, fun hne => ⟨by decide, ⟨hi, by omega⟩, by decide, ⟨hi, by omega⟩, x, cx, y, cy, fun hl => ⟨hle, k1 hl⟩, fun hl => ⟨hle, k2 (by omega)⟩⟩,
    fun he => ⟨⟨by omega, by omega⟩, ⟨rfl, k3 he⟩, by dsimp only; omega⟩⟩

def numC (d : List Int) : Array Value := (d.map (fun x => Value.int .i64 x) ++ [Value.bool false]).toArray

theorem H.ins_ins (u : H) (n : Nat) (a b : Obj) : (u.ins n a).ins n b = u.ins n b := by
  funext x; unfold H.ins; split <;> rfl

theorem st_num {u : H} {n : Nat} {d : List Int} {T : TypeId} (hd : d.length = 8) {i : Nat} (hi : i < 8) {x : Int} {f : H → Prop} (hf : f (u.ins n (.cells (numC (d.set i x)) T (0, 0)))) :
    H.St (u.ins n (.cells (numC d) T (0, 0))) ((Addr.mk n 0 none).add (i * 1)) [.int .i64 x] f := by
  rw [Nat.mul_one, Addr.add_lit, Nat.zero_add]
  refine ⟨numC d, T, H.ins_same _ _ _, rfl, by simp [numC, hd]; omega, by simp [Value.oneCell'], ?_⟩
  rw [H.ins_ins]
  have : wr (numC d) i [.int .i64 x] = numC (d.set i x) := by
    show (numC d).setIfInBounds i (.int .i64 x) = _
    unfold numC
    simp only [List.setIfInBounds_toArray]
    rw [List.set_append_left _ _ (by simp [hd, hi]), List.map_set]
  show f (u.ins n (.cells (wr (numC d) i [.int .i64 x]) T (0, 0)))
  rw [this]; exact hf

theorem spec.theodoliteref01_Of {a b : Int} {u : H} {K : Int → Int → Int → Int → Int → Int → Int → Int → Bool → H → Prop} (ha : U64 a) (hb : U64 b)
    (h : K (dg b 0) (dg b 1) (dg b 2) (dg b 3) (dg a 0) (dg a 1) (dg a 2) (dg a 3) false u) : C.theodoliteref01_Of a b u K := by
  refine ClT.forget (ss := [.agg [.int .i64, .int .i64, .int .i64, .int .i64, .int .i64, .int .i64, .int .i64, .int .i64, .bool]]) ?_
  apply vc.theodoliteref01_Of
  intro n hn
  refine ⟨fun i x y v => 0 ≤ i ∧ i ≤ 4 ∧ x = a / (65536 ^ i.toNat : Nat) ∧ y = b / (65536 ^ i.toNat : Nat) ∧ ∃ d : List Int, d.length = 8 ∧ v = u.ins n (.cells (numC d) 141 (0, 0)) ∧ ∀ j, j < i.toNat → d[j]? = some (dg b j) ∧ d[4 + j]? = some (dg a j),
    fun i _ _ _ => (4 - i).toNat, ⟨by omega, by omega, by simp, by simp, [0, 0, 0, 0, 0, 0, 0, 0], rfl, rfl, fun j hj => by simp at hj⟩, ?_⟩
  rintro i x y v ⟨l0, l1, rfl, rfl, d, hd, rfl, hc⟩
  obtain ⟨ha0, ha1⟩ := ha
  obtain ⟨hb0, hb1⟩ := hb
  refine ⟨fun hi => ?_, fun hi => ?_⟩
  · have hp : (0 : Int) < (65536 ^ i.toNat : Nat) := Int.natCast_pos.2 (Nat.pow_pos (by decide))
    have hx0 : 0 ≤ a / (65536 ^ i.toNat : Nat) := Int.ediv_nonneg ha0 (by omega)
    have hy0 : 0 ≤ b / (65536 ^ i.toNat : Nat) := Int.ediv_nonneg hb0 (by omega)
    have hx1 : a / (65536 ^ i.toNat : Nat) ≤ a := Int.ediv_le_self _ ha0
    have hy1 : b / (65536 ^ i.toNat : Nat) ≤ b := Int.ediv_le_self _ hb0
    have hdx : a / (65536 ^ i.toNat : Nat) / 65536 = a / (65536 ^ (i + 1).toNat : Nat) := by
      rw [Int.ediv_ediv_of_nonneg (by omega), show (i + 1).toNat = i.toNat + 1 by omega, Nat.pow_succ]; rfl
    have hdy : b / (65536 ^ i.toNat : Nat) / 65536 = b / (65536 ^ (i + 1).toNat : Nat) := by
      rw [Int.ediv_ediv_of_nonneg (by omega), show (i + 1).toNat = i.toNat + 1 by omega, Nat.pow_succ]; rfl
    have ex : dg a i.toNat = a / (65536 ^ i.toNat : Nat) % 65536 := rfl
    have ey : dg b i.toNat = b / (65536 ^ i.toNat : Nat) % 65536 := rfl
    generalize a / (65536 ^ i.toNat : Nat) = x at *
    generalize b / (65536 ^ i.toNat : Nat) = y at *
    have t1 : Int.tmod y 65536 = y % 65536 := Int.tmod_eq_emod_of_nonneg hy0
    have t2 : Int.tmod x 65536 = x % 65536 := Int.tmod_eq_emod_of_nonneg hx0
    have t3 : Int.tdiv y 65536 = y / 65536 := Int.tdiv_eq_ediv_of_nonneg hy0
    have t4 : Int.tdiv x 65536 = x / 65536 := Int.tdiv_eq_ediv_of_nonneg hx0
    rw [t1, t2, t3, t4, IntWalk.i64_in (y % 65536) (by omega), IntWalk.i64_in (x % 65536) (by omega), IntWalk.u64_in (y / 65536) (by omega), IntWalk.u64_in (x / 65536) (by omega)]
    refine ⟨by decide, by decide, ⟨l0, by omega⟩, st_num hd (by omega) ⟨by decide, ⟨by omega, by omega⟩, by decide, by decide, ⟨by omega, by omega⟩, st_num (by simp [hd]) (by omega)
      ⟨by decide, ⟨by omega, by omega⟩, ⟨by omega, by omega, hdx, hdy, _, ?_, rfl, ?_⟩, by dsimp only; omega⟩⟩⟩
    · simp [hd]
    · intro j hj
      have e4 : (4 + i).toNat = 4 + i.toNat := by omega
      rw [e4]
      simp only [List.getElem?_set]
      by_cases hji : j = i.toNat
      · subst hji
        rw [if_neg (by omega), if_pos rfl, if_pos (by omega), if_pos rfl, if_pos (by simp [hd]; omega), ey, ex]
        exact ⟨rfl, rfl⟩
      · rw [if_neg (by omega), if_neg (by omega), if_neg (by omega), if_neg (by omega)]
        exact hc j (by omega)
  · have h4 : i.toNat = 4 := by omega
    rw [h4] at hc
    have g : ∀ j z, d[j]? = some z → j < 8 → ((u.ins n (.cells (numC d) 141 (0, 0))).cell? ⟨n, j, none⟩ = some (.int .i64 z)) := by
      intro j z hz hj
      rw [H.cell?_ins]
      simp [numC, List.getElem?_append, hd, hj]
      exact (List.getElem?_eq_some_iff.1 hz).2
    have c0 := hc 0 (by omega)
    have c1 := hc 1 (by omega)
    have c2 := hc 2 (by omega)
    have c3 := hc 3 (by omega)
    refine ⟨_, g 0 _ c0.1 (by omega), _, g 1 _ c1.1 (by omega), _, g 2 _ c2.1 (by omega), _, g 3 _ c3.1 (by omega), _, g 4 _ c0.2 (by omega), _, g 5 _ c1.2 (by omega), _, g 6 _ c2.2 (by omega), _, g 7 _ c3.2 (by omega), false, ?_, H.le_ins _ hn, h⟩
    show (u.ins n _).cell? ⟨n, 8, none⟩ = _
    rw [H.cell?_ins]
    simp [numC, hd]

theorem spec.theodoliteref01_Less {a b c d : Int} {u : H} {K : Bool → H → Prop} (ha : U64 a) (hb : U64 b) (hc : U64 c) (hd : U64 d) (h : K (decide (wv a b < wv c d)) u) : C.theodoliteref01_Less a b c d u K := by
  apply vc.theodoliteref01_Less
  refine spec.theodoliteref01_Of ha hb ⟨H.le.refl _, spec.theodoliteref01_Of hc hd (spec.theodoliteref01_Cmp ?_)⟩
  have key : ∀ z : Int, (z < 0 ↔ wv a b < wv c d) → K (decide (z < 0)) u := fun z hz => by
    have : decide (z < 0) = decide (wv a b < wv c d) := by simp [hz]
    rw [this]; exact h
  simp only [U64, wv, dg, Nat.reducePow] at *
  refine ⟨fun _ _ _ _ _ _ _ _ => key 0 (by omega), fun _ => key (-1) (by omega), fun _ => key 1 (by omega)⟩

end Go.Proofs.YtncninpdlpemgaaGreat

/- VcRows -/
namespace Go.Proofs.YtncninpdlpemgaaGreat

theorem Addr.add_zero' (p : Addr) : p.add 0 = p := rfl

/-! ### hits -/

def hiW (d : Int) : Int := d / 18446744073709551616
def loW (d : Int) : Int := d % 18446744073709551616

/-- A distance as it must be. -/
def Dok (d : Int) : Prop := 0 ≤ d ∧ d < 340282366920938463463374607431768211456

theorem wv_hl (d : Int) : wv (hiW d) (loW d) = d := by unfold wv hiW loW; omega
theorem loU (d : Int) : U64 (loW d) := by unfold U64 loW; omega
theorem hiU {d : Int} (h : Dok d) : U64 (hiW d) := by unfold Dok at h; unfold U64 hiW; omega
theorem hi_wv {x y : Int} (hy : U64 y) : hiW (wv x y) = x := by unfold U64 at hy; unfold hiW wv; omega
theorem lo_wv {x y : Int} (hy : U64 y) : loW (wv x y) = y := by unfold U64 at hy; unfold loW wv; omega
theorem Dok_wv {x y : Int} (hx : U64 x) (hy : U64 y) : Dok (wv x y) := by unfold U64 at hx hy; unfold Dok wv; omega

def encH (h : Hit) : List Value := [.int .i64 h.1, .int .u64 (hiW h.2), .int .u64 (loW h.2)]
theorem encH_len (h : Hit) : (encH h).length = 3 := rfl
theorem encH_one (h : Hit) : ∀ v ∈ encH h, v.oneCell' = true := by simp [encH, Value.oneCell']

theorem hit_eq {a b : Hit} : (a.1 = b.1 ∧ hiW a.2 = hiW b.2 ∧ loW a.2 = loW b.2) ↔ a = b := by
  constructor
  · rintro ⟨h1, h2, h3⟩
    have : a.2 = b.2 := by rw [← wv_hl a.2, ← wv_hl b.2, h2, h3]
    exact Prod.ext h1 this
  · rintro rfl; exact ⟨rfl, rfl, rfl⟩

/-- A slice of hits. -/
def Hts (u : H) (s : Sl) (l : List Hit) : Prop := Seg u s 3 (l.flatMap encH)

theorem Hts.len {u : H} {s : Sl} {l : List Hit} (h : Hts u s l) : s.n = l.length := flat_n encH_len (by decide) h
theorem Hts.max {u : H} {s : Sl} {l : List Hit} (h : Hts u s l) : s.n ≤ 9223372036854775807 := Nat.le_trans (Seg.cap h) (Seg.max h)
theorem Hts.mono {u u' : H} {s : Sl} {l : List Hit} (h : Hts u s l) (k : u.le u') : Hts u' s l := Seg.mono h k

theorem Hts.at {u : H} {s : Sl} {l : List Hit} (h : Hts u s l) {x : Int} (h0 : 0 ≤ x) (h1 : x < (s.n : Int)) : ∃ p, s.a = some p ∧ ∃ q : Hit, l[x.toNat]? = some q ∧
    u.cell? (p.add (x.toNat * 3)) = some (.int .i64 q.1) ∧ u.cell? ((p.add (x.toNat * 3)).add 1) = some (.int .u64 (hiW q.2)) ∧ u.cell? ((p.add (x.toNat * 3)).add 2) = some (.int .u64 (loW q.2)) := by
  have hn := h.len
  have hl : x.toNat < l.length := by omega
  obtain ⟨p, hp, hc⟩ := Seg.elem encH_len (by decide) h (List.getElem?_eq_getElem hl)
  exact ⟨p, hp, _, List.getElem?_eq_getElem hl, hc 0 _ rfl, hc 1 _ rfl, hc 2 _ rfl⟩

/-! ### rows -/

structure Rw where
  id : Int
  s : Sl
  v : List Int

def encR (r : Rw) : List Value := [.int .i64 r.id, .slice r.s.a r.s.n r.s.c]
theorem encR_len (r : Rw) : (encR r).length = 2 := rfl
theorem encR_one (r : Rw) : ∀ v ∈ encR r, v.oneCell' = true := by simp [encR, Value.oneCell']

def Rws (u : H) (s : Sl) (l : List Rw) : Prop := Seg u s 2 (l.flatMap encR) ∧ ∀ r ∈ l, Ints u r.s r.v

theorem Rws.len {u : H} {s : Sl} {l : List Rw} (h : Rws u s l) : s.n = l.length := flat_n encR_len (by decide) h.1
theorem Rws.max {u : H} {s : Sl} {l : List Rw} (h : Rws u s l) : s.n ≤ 9223372036854775807 := Nat.le_trans (Seg.cap h.1) (Seg.max h.1)
theorem Rws.mono {u u' : H} {s : Sl} {l : List Rw} (h : Rws u s l) (k : u.le u') : Rws u' s l := ⟨Seg.mono h.1 k, fun r hr => (h.2 r hr).mono k⟩

theorem Rws.at {u : H} {s : Sl} {l : List Rw} (h : Rws u s l) {x : Int} (h0 : 0 ≤ x) (h1 : x < (s.n : Int)) : ∃ p, s.a = some p ∧ ∃ q : Rw, l[x.toNat]? = some q ∧
    u.cell? (p.add (x.toNat * 2)) = some (.int .i64 q.id) ∧ u.cell? ((p.add (x.toNat * 2)).add 1) = some (.slice q.s.a q.s.n q.s.c) ∧ Ints u q.s q.v := by
  have hn := h.len
  have hl : x.toNat < l.length := by omega
  obtain ⟨p, hp, hc⟩ := Seg.elem encR_len (by decide) h.1 (List.getElem?_eq_getElem hl)
  exact ⟨p, hp, _, List.getElem?_eq_getElem hl, hc 0 _ rfl, hc 1 _ rfl, h.2 _ (List.getElem_mem hl)⟩

/-! ### comparisons -/

theorem spec.theodoliteref05_Before {a b : Hit} {u : H} {K : Bool → H → Prop} (ha : Dok a.2) (hb : Dok b.2) (h : K (hlt a b) u) : C.theodoliteref05_Before a.1 (hiW a.2) (loW a.2) b.1 (hiW b.2) (loW b.2) u K := by
  apply vc.theodoliteref05_Before
  have key : ∀ z, hlt a b = z → K z u := fun z e => e ▸ h
  refine ⟨fun hn => spec.theodoliteref01_Less (hiU ha) (loU _) (hiU hb) (loU _) (key _ ?_), fun he => key _ ?_⟩
  · rw [wv_hl, wv_hl]
    have : a.2 ≠ b.2 := fun e => hn (by rw [e]; exact ⟨rfl, rfl⟩)
    simp [hlt, this]
  · have : a.2 = b.2 := by rw [← wv_hl a.2, ← wv_hl b.2, he.1, he.2]
    simp [hlt, this]

theorem spec.cmp_Compare_int_ {a b : Int} {u : H} {K : Int → H → Prop} (h : K (if a < b then -1 else if b < a then 1 else 0) u) : C.cmp_Compare_int_ a b u K := by
  have key : ∀ z, (if a < b then (-1 : Int) else if b < a then 1 else 0) = z → K z u := fun z e => e ▸ h
  apply vc.cmp_Compare_int_
  apply vc.cmp_isNaN_int_
  apply vc.cmp_isNaN_int_
  simp only [decide_true, Bool.not_true]
  refine ⟨fun h => by simp at h, fun _ => ⟨fun h => by simp at h, fun _ => ⟨fun h1 => key _ (by simp [h1]), fun h1 => ⟨fun h2 => key _ (by simp [h1, h2]), fun h2 => key _ (by simp [h1, h2])⟩⟩⟩⟩

theorem spec.cmp_Or_int_ {s : Sl} {a b : Int} {u : H} {K : Int → H → Prop} (hs : Ints u s [a, b]) (h : K (if a ≠ 0 then a else b) u) : C.cmp_Or_int_ s u K := by
  have hn := hs.len
  simp only [List.length_cons, List.length_nil, Nat.zero_add, Nat.reduceAdd] at hn
  apply vc.cmp_Or_int_
  refine ⟨fun _ i v => v = u ∧ 0 ≤ i ∧ i ≤ 2 ∧ (0 < i → a = 0) ∧ (1 < i → b = 0), fun _ i _ => (2 - i).toNat, ⟨rfl, by omega, by omega, by omega, by omega⟩, ?_⟩
  rintro _ i v ⟨rfl, h0, h1, h2, h3⟩
  refine ⟨fun hi => ?_, fun hi => ?_⟩
  · obtain ⟨p, hp, hc⟩ := hs.at h0 hi
    refine ⟨p, hp, ⟨h0, hi⟩, _, hc, ?_⟩
    have hc : i = 0 ∨ i = 1 := by omega
    rcases hc with rfl | rfl
    · refine ⟨fun hne => ?_, fun he => ⟨⟨by omega, by omega⟩, ⟨rfl, by omega, by omega, fun _ => he, by omega⟩, by dsimp only; omega⟩⟩
      have hne : a ≠ 0 := hne
      rw [if_pos hne] at h; exact h
    · have ha := h2 (by omega)
      rw [if_neg (by omega)] at h
      refine ⟨fun hne => h, fun he => ⟨⟨by omega, by omega⟩, ⟨rfl, by omega, by omega, fun _ => ha, fun _ => he⟩, by dsimp only; omega⟩⟩
  · have ha := h2 (by omega)
    have hb := h3 (by omega)
    rw [if_neg (by omega), hb] at h
    exact h

theorem tInts : elemT Tryz.prog 41 = some (3, 1, 8, [.int .i64 0]) := by kernel_rfl

theorem build_ints2 (a b : Int) : buildOf Tryz.prog 41 2 #[(0, .int .i64 a), (1, .int .i64 b)] = some (3, [.int .i64 a, .int .i64 b]) := by kernel_rfl

theorem ints_made {u0 u : H} (h : u0.le u) {g : Nat} (hg : u g = none) (l : List Int) (e : TypeId) (hl : l.length ≤ 9223372036854775807) :
    Ints (u.ins g (.cells (l.map fun x => Value.int .i64 x).toArray e (0, 0))) ⟨some ⟨g, 0, none⟩, l.length, l.length⟩ l := by
  have := (OwnF.make (k := 1) h hg (cells := (l.map fun x => Value.int .i64 x).toArray) (e := e) (n := l.length) hl (by simp)).own.seg
  simpa [Ints] using this

theorem spec.topk_compare {a b : Hit} {u : H} {K : Int → H → Prop} (h : ∀ z : Int, (z < 0 ↔ hlt a b = true) → (0 < z ↔ hlt b a = true) → -1 ≤ z → z ≤ 1 → K z u) : C.topk_compare a.1 (hiW a.2) (loW a.2) b.1 (hiW b.2) (loW b.2) u K := by
  refine ClT.forget (ss := [.one (.int .i64)]) ?_
  apply vc.topk_compare
  refine spec.wide_Cmp (loU _) (loU _) ⟨H.le.refl _, spec.cmp_Compare_int_ (sem_build (build_ints2 _ _) fun g hg => ?_)⟩
  refine spec.cmp_Or_int_ (ints_made (H.le.refl u) hg [_, _] 3 (by simp)) ⟨H.le_ins _ hg, h _ ?_ ?_ ?_ ?_⟩
  · rw [wv_hl, wv_hl, hlt_iff]
    (repeat' split) <;> omega
  · rw [wv_hl, wv_hl, hlt_iff]
    (repeat' split) <;> omega
  · (repeat' split) <;> omega
  · (repeat' split) <;> omega

theorem spec.topk_Less {a b : Hit} {u : H} {K : Bool → H → Prop} (h : K (hlt a b) u) : C.topk_Less a.1 (hiW a.2) (loW a.2) b.1 (hiW b.2) (loW b.2) u K := by
  apply vc.topk_Less
  refine spec.topk_compare fun z hz _ _ _ => ?_
  have : decide (z < 0) = hlt a b := by
    cases hb : hlt a b <;> simp [hz, hb]
  rw [this]; exact h

/-! ### lists of hits compared -/

theorem spec.theodolitekeep_Hits {s t : Sl} {a b : List Hit} {u : H} {K : Bool → H → Prop} (hs : Hts u s a) (ht : Hts u t b) (h : K (decide (a = b)) u) : C.theodolitekeep_Hits s t u K := by
  have key : ∀ z, decide (a = b) = z → K z u := fun z e => e ▸ h
  have hn := hs.len
  have hm := ht.len
  have hmx := hs.max
  apply vc.theodolitekeep_Hits
  refine ⟨fun hne => key _ ?_, fun he => ?_⟩
  · have : a ≠ b := fun e => hne (by rw [hn, hm, e])
    simp [this]
  · refine ⟨fun _ i v => v = u ∧ 0 ≤ i ∧ i ≤ (s.n : Int) ∧ a.take i.toNat = b.take i.toNat, fun _ i _ => s.n - i.toNat, ⟨rfl, by omega, by omega, by simp⟩, ?_⟩
    rintro _ i v ⟨rfl, h0, h1, hp⟩
    refine ⟨fun hi => ?_, fun hi => key _ ?_⟩
    · obtain ⟨p, hp1, x, hx, c0, c1, c2⟩ := hs.at h0 hi
      obtain ⟨q, hq1, y, hy, d0, d1, d2⟩ := ht.at h0 (show i < (t.n : Int) by omega)
      refine ⟨p, hp1, ⟨h0, hi⟩, q, hq1, ⟨h0, by omega⟩, _, c0, _, c1, _, c2, _, d0, _, d1, _, d2, fun hne => key _ ?_, fun hxy => ⟨⟨by omega, by omega⟩, ⟨rfl, by omega, by omega, ?_⟩, by dsimp only; omega⟩⟩
      · have hxy : x ≠ y := fun e => hne (hit_eq.2 e)
        have : a ≠ b := fun e => by rw [e, hy] at hx; cases hx; exact hxy rfl
        simp [this]
      · have : x = y := hit_eq.1 hxy
        have e1 : (i + 1).toNat = i.toNat + 1 := by omega
        rw [e1, List.take_add_one, List.take_add_one, hp, hx, hy, this]
    · have e1 : i.toNat = a.length := by omega
      rw [e1, List.take_length, ← hn, show s.n = b.length by omega, List.take_length] at hp
      simp [hp]

/-! ### rows as they must be -/

/-- What rows' tests answer, some ids being taken already. -/
def rchk (d : Int) : List Int → List Rw → Int
  | _, [] => 0
  | seen, r :: l => if r.id < 1 ∨ 1000000000 < r.id ∨ r.id ∈ seen then 50 else if vcheck r.v d ≠ 0 then vcheck r.v d else rchk d (seen ++ [r.id]) l

def rcheck (l : List Rw) (d : Int) : Int := if d < 1 ∨ 64 < d then 30 else if 512 < l.length then 2 else rchk d [] l

theorem rchk_step {d : Int} {l : List Rw} {i : Nat} {r : Rw} (h : l[i]? = some r) : rchk d ((l.take i).map (·.id)) (l.drop i) =
    if r.id < 1 ∨ 1000000000 < r.id ∨ r.id ∈ (l.take i).map (·.id) then 50 else if vcheck r.v d ≠ 0 then vcheck r.v d else rchk d ((l.take (i + 1)).map (·.id)) (l.drop (i + 1)) := by
  have hi : i < l.length := (List.getElem?_eq_some_iff.1 h).1
  have hr : l[i] = r := (List.getElem?_eq_some_iff.1 h).2
  rw [List.drop_eq_getElem_cons hi, hr]
  simp only [rchk]
  rw [List.take_add_one, h]
  simp

theorem spec.theodoliteref03_Id {x : Int} {u : H} {K : Bool → H → Prop} (h : K (decide (1 ≤ x ∧ x ≤ 1000000000)) u) : C.theodoliteref03_Id x u K := by
  apply vc.theodoliteref03_Id
  refine ⟨fun h1 => ?_, fun h1 => ?_⟩
  · have : decide (1 ≤ x ∧ x ≤ 1000000000) = decide (x ≤ 1000000000) := by simp [h1]
    rw [this] at h; exact h
  · have : decide (1 ≤ x ∧ x ≤ 1000000000) = false := by simp; omega
    rw [this] at h; exact h

end Go.Proofs.YtncninpdlpemgaaGreat

/- VcHits2 -/
namespace Go.Proofs.YtncninpdlpemgaaGreat

/-! ### checks -/

theorem setTy : SetTy Tryz.prog 145 3 4 := ⟨by kernel_rfl, by kernel_rfl, fun _ => by kernel_rfl⟩

theorem spec.flat_Check {s : Sl} {l : List Rw} {d : Int} {u : H} {K : Int → H → Prop} (hs : Rws u s l) (h : K (rcheck l d) u) : C.flat_Check s d u K := by
  have key : ∀ z, rcheck l d = z → K z u := fun z e => e ▸ h
  have hn := hs.len
  have hmx := hs.max
  refine ClT.forget (ss := [.one (.int .i64)]) ?_
  apply vc.flat_Check
  intro K0 hK0
  have hle := H.le.refl u
  refine ⟨fun h1 => ⟨hle, key _ (if_pos (.inl h1))⟩, fun h1 => ⟨fun h2 => ⟨hle, key _ (if_pos (.inr h2))⟩, fun h2 => ⟨fun h3 => ⟨hle, key _ ?_⟩, fun h3 => hK0 _ _ ?_⟩⟩⟩
  · unfold rcheck; rw [if_neg (by omega), if_pos (by omega)]
  have hr : rcheck l d = rchk d [] l := by unfold rcheck; rw [if_neg (by omega), if_neg (by omega)]
  rw [hr] at key
  clear hK0 K0
  refine sem_makeMap fun b hb hset => ?_
  refine ⟨fun _ i v => 0 ≤ i ∧ i ≤ (s.n : Int) ∧ u.le v ∧ SetOf v b ((l.take i.toNat).map (·.id)) ∧ rchk d ((l.take i.toNat).map (·.id)) (l.drop i.toNat) = rchk d [] l, fun _ i _ => s.n - i.toNat,
    ⟨by omega, by omega, H.le_ins _ hb, by simpa using hset, by simp⟩, ?_⟩
  rintro _ i v ⟨h0, hi1, hv, hset, hp⟩
  refine ⟨fun hi => ?_, fun hi => ⟨hv, key _ ?_⟩⟩
  · obtain ⟨p, hp1, r, hr', c0, c1, hiv⟩ := (hs.mono hv).at h0 hi
    rw [rchk_step hr'] at hp
    refine ⟨p, hp1, ⟨h0, hi⟩, _, c0, _, c1, fun K13 hK13 => ⟨fun h4 => ⟨hv, key _ ?_⟩, fun h4 => ⟨fun h5 => ⟨hv, key _ ?_⟩, fun h5 => sem_lookup setTy hset ⟨fun h6 => ⟨hv, key _ ?_⟩, fun h6 => hK13 _ _ ?_⟩⟩⟩⟩
    · rw [if_pos (.inl h4)] at hp; exact hp.symm
    · rw [if_pos (.inr (.inl h5))] at hp; exact hp.symm
    · rw [if_pos (.inr (.inr (by simpa using h6)))] at hp; exact hp.symm
    · have h6 : r.id ∉ (l.take i.toNat).map (·.id) := by simpa using h6
      rw [if_neg (fun h => h.elim (fun h => by omega) fun h => h.elim (fun h => by omega) fun h => h6 h)] at hp
      refine spec.vec_Check hiv ⟨fun hne => ⟨hv, key _ ?_⟩, fun he => sem_mapAdd setTy hset h6 fun v' hset' hkeep _ => ⟨⟨by omega, by omega⟩, ⟨by omega, by omega, ?_, ?_, ?_⟩, by dsimp only; omega⟩⟩
      · rw [if_pos hne] at hp; exact hp.symm
      · exact fun g o hg => hkeep g o (hv g o hg) (fun e => by rw [e, hb] at hg; cases hg)
      · rw [show (i + 1).toNat = i.toNat + 1 by omega, List.take_add_one, hr']
        simpa using hset'
      · rw [if_neg (by simpa using he)] at hp
        rw [show (i + 1).toNat = i.toNat + 1 by omega]; exact hp
  · rw [List.drop_eq_nil_of_le (by omega)] at hp
    exact hp.symm

/-- The error of a question. -/
def asked (l : List Rw) (q : List Int) : Int := if vcheck q q.length ≠ 0 then vcheck q q.length else rcheck l q.length

theorem spec.flat_asked {s t : Sl} {l : List Rw} {q : List Int} {u : H} {K : Int → H → Prop} (hs : Rws u s l) (ht : Ints u t q) (h : K (asked l q) u) : C.flat_asked s t u K := by
  have key : ∀ z, asked l q = z → K z u := fun z e => e ▸ h
  apply vc.flat_asked
  rw [show (t.n : Int) = (q.length : Int) by rw [ht.len]]
  refine spec.vec_Check ht ⟨fun hne => key _ (if_pos hne), fun he => spec.flat_Check hs (key _ (if_neg (by simpa using he)))⟩

theorem vcheck_ok {l : List Int} {d : Int} (h : vcheck l d = 0) : 1 ≤ d ∧ d ≤ 64 ∧ (l.length : Int) = d ∧ vok l := by
  unfold vcheck at h
  split at h
  · rename_i h1
    split at h
    · rename_i h2; exact ⟨h1.1, h1.2.1, h1.2.2, by omega, h2⟩
    · cases h
  · cases h

theorem ok_vcheck {l : List Int} (h : vok l) (h1 : 1 ≤ l.length) : vcheck l l.length = 0 := by
  unfold vcheck
  rw [if_pos ⟨by omega, by have := h.1; omega, rfl⟩, if_pos h.2]

/-- Rows as they must be. -/
structure Rok (l : List Rw) (d : Int) : Prop where
  dim : 1 ≤ d ∧ d ≤ 64
  len : l.length ≤ 512
  id : ∀ r ∈ l, 1 ≤ r.id ∧ r.id ≤ 1000000000
  nodup : (l.map (·.id)).Nodup
  v : ∀ r ∈ l, (r.v.length : Int) = d ∧ vok r.v

theorem rchk_ok {d : Int} : ∀ {l : List Rw} {seen : List Int}, rchk d seen l = 0 ↔ ((∀ r ∈ l, 1 ≤ r.id ∧ r.id ≤ 1000000000 ∧ r.id ∉ seen ∧ vcheck r.v d = 0) ∧ (l.map (·.id)).Nodup) := by
  intro l
  induction l with
  | nil => intro seen; simp [rchk]
  | cons r l ih =>
    intro seen
    simp only [rchk]
    split
    · rename_i h
      refine ⟨fun h => (by cases h), fun ⟨h1, _⟩ => ?_⟩
      have := h1 r (by simp)
      exfalso
      rcases h with h | h | h
      · omega
      · omega
      · exact this.2.2.1 h
    · rename_i h
      split
      · rename_i hv
        exact ⟨fun h => absurd h hv, fun ⟨h1, _⟩ => absurd (h1 r (by simp)).2.2.2 hv⟩
      · rename_i hv
        rw [ih]
        simp only [List.mem_cons, forall_eq_or_imp, List.map_cons, List.nodup_cons, List.mem_append, List.not_mem_nil, or_false, not_or]
        constructor
        · rintro ⟨h1, h2⟩
          refine ⟨⟨⟨by omega, by omega, fun hm => h (.inr (.inr hm)), by simpa using hv⟩, fun x hx => ⟨(h1 x hx).1, (h1 x hx).2.1, (h1 x hx).2.2.1.1, (h1 x hx).2.2.2⟩⟩, ?_, h2⟩
          intro hm
          obtain ⟨x, hx, he⟩ := List.mem_map.1 hm
          exact (h1 x hx).2.2.1.2 he
        · rintro ⟨⟨_, h1⟩, h2, h3⟩
          refine ⟨fun x hx => ⟨(h1 x hx).1, (h1 x hx).2.1, ⟨(h1 x hx).2.2.1, fun he => h2 (List.mem_map.2 ⟨x, hx, he⟩)⟩, (h1 x hx).2.2.2⟩, h3⟩

theorem rcheck_ok {l : List Rw} {d : Int} : rcheck l d = 0 ↔ Rok l d := by
  unfold rcheck
  constructor
  · intro h
    split at h
    · cases h
    · split at h
      · cases h
      · rename_i h1 h2
        obtain ⟨h3, h4⟩ := rchk_ok.1 h
        exact ⟨by omega, by omega, fun r hr => ⟨(h3 r hr).1, (h3 r hr).2.1⟩, h4, fun r hr => ⟨(vcheck_ok (h3 r hr).2.2.2).2.2.1, (vcheck_ok (h3 r hr).2.2.2).2.2.2⟩⟩
  · intro h
    have := h.dim
    have := h.len
    rw [if_neg (by omega), if_neg (by omega)]
    refine rchk_ok.2 ⟨fun r hr => ⟨(h.id r hr).1, (h.id r hr).2, by simp, ?_⟩, h.nodup⟩
    obtain ⟨h1, h2⟩ := h.v r hr
    rw [← h1]
    exact ok_vcheck h2 (by omega)

/-- A question as it must be. -/
structure Qok (l : List Rw) (q : List Int) : Prop where
  vq : vok q
  rows : Rok l q.length

theorem asked_ok {l : List Rw} {q : List Int} : asked l q = 0 ↔ Qok l q := by
  unfold asked
  constructor
  · intro h
    split at h
    · rename_i hne; exact absurd h hne
    · rename_i he
      exact ⟨(vcheck_ok (by simpa using he)).2.2.2, rcheck_ok.1 h⟩
  · intro ⟨h1, h2⟩
    have hv := ok_vcheck h1 (by have := h2.dim; omega)
    rw [if_neg (by simp [hv])]
    exact rcheck_ok.2 h2

/-! ### distances -/

theorem build_two (s t : Sl) : buildOf Tryz.prog 169 2 #[(0, .slice s.a s.n s.c), (1, .slice t.a t.n t.c)] = some (41, [.slice s.a s.n s.c, .slice t.a t.n t.c]) := by kernel_rfl

theorem spec.vec_Dist {s t : Sl} {a b : List Int} {u : H} {K : Int → Int → Int → H → Prop} (hs : Ints u s a) (ht : Ints u t b) (ha : vok a) (h1 : 1 ≤ a.length) (hb : vok b) (hl : a.length = b.length)
    (h : ∀ x y, U64 x → U64 y → wv x y = sqTo a b a.length → K x y 0 u) : C.vec_Dist s t u K := by
  refine ClT.forget (ss := [.agg [.int .u64, .int .u64], .one (.int .i64)]) ?_
  apply vc.vec_Dist
  refine sem_build (build_two _ _) fun g hg => ?_
  generalize hu' : u.ins g _ = u'
  have hle : u.le u' := by subst hu'; exact H.le_ins _ hg
  have c : ∀ j v, (#[Value.slice s.a s.n s.c, Value.slice t.a t.n t.c] : Array Value)[j]? = some v → u'.cell? ⟨g, j, none⟩ = some v := by
    intro j v hv
    subst hu'
    exact (H.cell?_of (H.ins_same _ _ _) j).trans hv
  clear hu' hg
  refine ⟨fun _ i _ _ v => v = u' ∧ 0 ≤ i ∧ i ≤ 2, fun _ i _ _ _ => (2 - i).toNat, ⟨rfl, by omega, by omega⟩, ?_⟩
  rintro _ i _ _ v ⟨rfl, l0, l1⟩
  rw [show (s.n : Int) = (a.length : Int) by rw [hs.len]]
  have va := ok_vcheck ha h1
  have vb : vcheck b a.length = 0 := by rw [hl]; exact ok_vcheck hb (by omega)
  refine ⟨fun hi => ⟨_, rfl, ⟨l0, hi⟩, ?_⟩, fun hi => spec.vec_far (hs.mono hle) (ht.mono hle) ha hb hl fun x y hx hy hw => ⟨hle, h x y hx hy hw⟩⟩
  have hi : i < 2 := hi
  have hc : i = 0 ∨ i = 1 := by omega
  rcases hc with rfl | rfl
  · refine ⟨s, c 0 _ rfl, spec.vec_Check (hs.mono hle) ⟨fun hne => absurd va hne, fun _ => ⟨⟨by omega, by omega⟩, ⟨rfl, by omega, by omega⟩, by dsimp only; omega⟩⟩⟩
  · refine ⟨t, c 1 _ rfl, spec.vec_Check (ht.mono hle) ⟨fun hne => absurd vb hne, fun _ => ⟨⟨by omega, by omega⟩, ⟨rfl, by omega, by omega⟩, by dsimp only; omega⟩⟩⟩

theorem sqTo_ok {a b : List Int} (ha : vok a) (hb : vok b) (hl : a.length = b.length) : Dok (sqTo a b a.length) := by
  have := sqTo_le ha hb a.length (by omega) (by omega)
  have := ha.1
  unfold Dok
  constructor <;> omega

/-- A row's hit. -/
def hitOf (q : List Int) (r : Rw) : Hit := (r.id, sqTo r.v q r.v.length)

theorem Qok.hit {l : List Rw} {q : List Int} (h : Qok l q) {r : Rw} (hr : r ∈ l) : Dok (hitOf q r).2 :=
  sqTo_ok (h.rows.v r hr).2 h.vq (by have := (h.rows.v r hr).1; omega)

end Go.Proofs.YtncninpdlpemgaaGreat

/- VcHits3 -/
namespace Go.Proofs.YtncninpdlpemgaaGreat

theorem tHits : elemT Tryz.prog 50 = some (66, 3, 24, [.int .i64 0, .int .u64 0, .int .u64 0]) := by kernel_rfl
theorem build_hit (x y z : Int) : buildOf Tryz.prog 50 1 #[(0, .agg #[.int .i64 x, .int .u64 y, .int .u64 z])] = some (66, [.int .i64 x, .int .u64 y, .int .u64 z]) := by kernel_rfl

theorem OwnF.rebase {u0 u : H} {e k : Nat} {s : Sl} {xs : List Value} (h : OwnF u0 u e k s xs) {n : Nat} (hn : u n = none) (o : Obj) : OwnF (u0.ins n o) (u.ins n o) e k s xs := by
  refine ⟨h.own.le fun b x _ hb => H.le_ins _ hn _ _ hb, fun b x hb => ?_, fun g hg => ?_⟩
  · unfold H.ins at hb ⊢
    split at hb
    · rename_i hbn; rw [if_pos hbn]; exact hb
    · rename_i hbn; rw [if_neg hbn]; exact h.le b x hb
  · rcases h.own.is with h0 | ⟨g', cur, ha, hg', _⟩
    · rw [h0] at hg; simp [Sl.blk] at hg
    · have : g' = g := by simpa [Sl.blk, ha] using hg
      subst this
      rw [H.ins_other _ _ (fun hgn => by rw [hgn, hn] at hg'; cases hg')]
      exact h.fresh g' hg

theorem H.le.none {u u' : H} (h : u.le u') {n : Nat} (hn : u' n = none) : u n = none := by
  cases hx : u n with
  | none => rfl
  | some o => rw [h _ _ hx] at hn; cases hn

theorem st_new {u : H} {n : Nat} {zs vs : List Value} {T : TypeId} {f : H → Prop} (hl : zs.length = vs.length) (h1 : ∀ v ∈ vs, v.oneCell' = true) (hf : f (u.ins n (.cells vs.toArray T (0, 0)))) :
    H.St (u.ins n (.cells zs.toArray T (0, 0))) ⟨n, 0, none⟩ vs f := by
  refine ⟨zs.toArray, T, H.ins_same _ _ _, rfl, by simp [hl], h1, ?_⟩
  rw [H.ins_ins]
  have : wr zs.toArray 0 vs = vs.toArray := by
    have := wr_toList zs.toArray 0 vs (by simp [hl])
    simp only [List.take_zero, List.nil_append, Nat.zero_add] at this
    rw [List.drop_eq_nil_of_le (by simp [hl])] at this
    apply Array.ext'
    rw [this]; simp
  show f (u.ins n (.cells (wr zs.toArray 0 vs) T (0, 0)))
  rw [this]; exact hf

theorem set_mid {α : Type} (A : List α) (z y : α) (B : List α) : (A ++ z :: B).set A.length y = A ++ y :: B := by
  induction A with
  | nil => rfl
  | cons a A ih => simp [ih]

theorem get_mid {α : Type} (A : List α) (z : α) (B : List α) : (A ++ z :: B)[A.length]? = some z := by
  rw [List.getElem?_append_right (Nat.le_refl _)]; simp

theorem OwnF.hts {u0 u : H} {e : Nat} {s : Sl} {l : List Hit} (h : OwnF u0 u e 3 s (l.flatMap encH)) : Hts u s l := h.own.seg

theorem flat_push (l : List Hit) (h : Hit) : l.flatMap encH ++ [.int .i64 h.1, .int .u64 (hiW h.2), .int .u64 (loW h.2)] = (l ++ [h]).flatMap encH := by simp [encH]

theorem spec.theodoliteref05_Hits {s t : Sl} {l : List Rw} {q : List Int} {u : H} {K : Sl → H → Prop} (hs : Rws u s l) (ht : Ints u t q) (hq : ∀ r ∈ l, vok r.v ∧ r.v.length = q.length) (hvq : vok q) (hlen : l.length ≤ 2000)
    (h : ∀ s' u', OwnF u u' 66 3 s' ((sortH (l.map (hitOf q))).flatMap encH) → K s' u') : C.theodoliteref05_Hits s t u K := by
  have hn := hs.len
  have hdok : ∀ r ∈ l, Dok (hitOf q r).2 := fun r hr => sqTo_ok (hq r hr).1 hvq (hq r hr).2
  apply vc.theodoliteref05_Hits
  refine ⟨fun s2 i v => 0 ≤ i ∧ i ≤ (s.n : Int) ∧ ∃ L : List Hit, OwnF u v 66 3 s2 (L.flatMap encH) ∧ Srt L ∧ L.Perm ((l.take i.toNat).map (hitOf q)), fun _ i _ => s.n - i.toNat,
    ⟨by omega, by omega, [], OwnF.nil (H.le.refl u) _ _, List.Pairwise.nil, by simp⟩, ?_⟩
  rintro s2 i v ⟨h0, hi1, L, hL, hsrt, hperm⟩
  refine ⟨fun hi => ?_, fun hi => ?_⟩
  · intro K5 hK5
    obtain ⟨p, hp1, r, hr, c0, c1, hiv⟩ := (hs.mono hL.le).at h0 hi
    have hrm : r ∈ l := List.mem_of_getElem? hr
    obtain ⟨hvr, hlr⟩ := hq r hrm
    -- the rest, of a hit that lies in a new block
    have key : ∀ n x y, v n = none → U64 x → U64 y → wv x y = (hitOf q r).2 → K5 ⟨n, 0, none⟩ (v.ins n (.cells [.int .i64 r.id, .int .u64 x, .int .u64 y].toArray 66 (0, 0))) := by
      intro n x y hvn hx hy hw
      refine hK5 _ _ ?_
      clear hK5
      generalize hh : hitOf q r = hit at hw
      have hh1 : r.id = hit.1 := by rw [← hh]; rfl
      have hhd : Dok hit.2 := by rw [← hh]; exact hdok r hrm
      have ex : x = hiW hit.2 := by rw [← hw, hi_wv hy]
      have ey : y = loW hit.2 := by rw [← hw, lo_wv hy]
      subst ex; subst ey
      rw [hh1]
      have hB := hL.rebase hvn (.cells (encH hit).toArray 66 (0, 0))
      show ∃ x8 : Int, _
      have hun := hL.le.none hvn
      generalize hu1 : v.ins n (Obj.cells (encH hit).toArray 66 (0, 0)) = u1 at hB
      have hu1' : v.ins n (Obj.cells [Value.int .i64 hit.1, .int .u64 (hiW hit.2), .int .u64 (loW hit.2)].toArray 66 (0, 0)) = u1 := hu1
      rw [hu1']
      generalize hu0 : u.ins n (Obj.cells (encH hit).toArray 66 (0, 0)) = u0 at hB
      have cu0 : ∀ j w, (encH hit)[j]? = some w → u0.cell? ((Addr.mk n 0 none).add j) = some w := by
        intro j w hj
        rw [Addr.add_lit, Nat.zero_add, ← hu0, H.cell?_ins]
        simpa using hj
      have cell : ∀ w, u0.le w → w.cell? ⟨n, 0, none⟩ = some (.int .i64 hit.1) ∧ w.cell? ((Addr.mk n 0 none).add 1) = some (.int .u64 (hiW hit.2)) ∧ w.cell? ((Addr.mk n 0 none).add 2) = some (.int .u64 (loW hit.2)) :=
        fun w hw => ⟨H.cell?_mono hw (cu0 0 _ rfl), H.cell?_mono hw (cu0 1 _ rfl), H.cell?_mono hw (cu0 2 _ rfl)⟩
      have hu0le : u.le u0 := by rw [← hu0]; exact H.le_ins _ hun
      have hLn := hL.hts.len
      have hLl : L.length ≤ 2000 := by
        have := hperm.length_eq
        simp only [List.length_map, List.length_take] at this
        omega
      obtain ⟨d0, d1, d2⟩ := cell u1 hB.le
      refine ⟨_, d0, _, d1, _, d2, sem_push' tHits (build_hit _ _ _) (by decide) rfl (by simp [Value.oneCell']) hB (by omega) (by omega) ?_⟩
      intro s13 u14 hO hsn _ _ _
      rw [flat_push] at hO
      refine ⟨fun k w => 0 ≤ k ∧ ∃ (A B : List Hit) (z : Hit), k = (A.length : Int) ∧ A ++ B = L ∧ (∀ b ∈ B, hlt hit b = true) ∧ OwnF u0 w 66 3 s13 ((A ++ z :: B).flatMap encH), fun k _ => k.toNat,
        ⟨by omega, L, [], hit, by rw [hLn], by simp, by simp, hO⟩, ?_⟩
      clear hO
      rintro k w ⟨k0, A, B, z, rfl, hAB, hBh, hO⟩
      intro K19 hK19
      have hs13 : s13.n = A.length + B.length + 1 := by have := hO.hts.len; simp at this; omega
      have hALl : A.length + B.length ≤ 2000 := by rw [← hAB] at hLl; simpa using hLl
      obtain ⟨e0, e1, e2⟩ := cell w hO.le
      -- the place is found
      have place : ∀ pp, s13.a = some pp → (∀ a ∈ A, hlt hit a = false) →
          H.St w (pp.add ((A.length : Int).toNat * 3)) [.int .i64 hit.1, .int .u64 (hiW hit.2), .int .u64 (loW hit.2)] fun u40 => InR (i + 1) ∧
            (0 ≤ i + 1 ∧ i + 1 ≤ (s.n : Int) ∧ ∃ L : List Hit, OwnF u u40 66 3 s13 (L.flatMap encH) ∧ Srt L ∧ L.Perm ((l.take (i + 1).toNat).map (hitOf q))) ∧ s.n - (i + 1).toNat < s.n - i.toNat := by
        intro pp hpp hA
        rw [show (A.length : Int).toNat = A.length by omega]
        refine OwnF.store (enc := encH) encH_len hO (by decide) (by simp) (y := hit) (encH_one hit) hpp fun u' hO' _ _ => ⟨⟨by omega, by omega⟩, ⟨by omega, by omega, A ++ hit :: B, ?_, ?_, ?_⟩, by omega⟩
        · rw [set_mid] at hO'
          exact hO'.weaken hu0le
        · rw [← hAB] at hsrt
          obtain ⟨s1, s2, s3⟩ := hsrt.append
          refine List.pairwise_append.2 ⟨s1, List.pairwise_cons.2 ⟨fun b hb => hlt_asymm (hBh b hb), s2⟩, fun a ha b hb => ?_⟩
          rcases List.mem_cons.1 hb with rfl | hb
          · exact hA a ha
          · exact s3 a ha b hb
        · rw [show (i + 1).toNat = i.toNat + 1 by omega, List.take_add_one, hr]
          simp only [Option.toList, List.map_append, List.map_cons, List.map_nil, hh]
          refine List.perm_middle.trans ((List.Perm.cons _ ?_).trans (List.perm_append_singleton _ _).symm)
          rw [hAB]; exact hperm
      refine ⟨fun hk => ?_, fun hk => ?_⟩
      · obtain ⟨A', a, rfl⟩ : ∃ A' a, A = A' ++ [a] := ⟨A.dropLast, A.getLast (by intro e; simp [e] at hk), (List.dropLast_concat_getLast _).symm⟩
        simp only [List.length_append, List.length_cons, List.length_nil, Nat.zero_add] at *
        have hk1 : (((A'.length + 1 : Nat) : Int) - 1).toNat = A'.length := by omega
        have hb1 : 0 ≤ ((A'.length + 1 : Nat) : Int) - 1 := by omega
        have hb2 : ((A'.length + 1 : Nat) : Int) - 1 < (s13.n : Int) := by omega
        obtain ⟨pp, hpp, x, hx, f0, f1, f2⟩ := hO.hts.at hb1 hb2
        have hxa : x = a := by
          rw [hk1] at hx
          simp only [List.append_assoc, List.singleton_append, List.cons_append] at hx
          rw [get_mid] at hx
          cases hx; rfl
        subst hxa
        have hxm : Dok x.2 := by
          have : x ∈ L := by rw [← hAB]; simp
          obtain ⟨r', hr', he⟩ := List.mem_map.1 (hperm.mem_iff.1 this)
          rw [← he]; exact hdok r' (List.mem_of_mem_take hr')
        refine ⟨⟨by omega, by omega⟩, pp, hpp, ⟨hb1, hb2⟩, _, e0, _, e1, _, e2, _, f0, _, f1, _, f2, spec.theodoliteref05_Before hhd hxm ⟨fun hb => hK19 _ ?_, fun hb => ⟨_, e0, _, e1, _, e2, pp, hpp, ⟨by omega, by omega⟩, ?_⟩⟩⟩
        · refine ⟨⟨by omega, by omega⟩, pp, hpp, ⟨hb1, hb2⟩, _, f0, _, f1, _, f2, pp, hpp, ⟨by omega, by omega⟩, ?_⟩
          rw [show ((A'.length + 1 : Nat) : Int).toNat = (A' ++ [x]).length by simp]
          refine OwnF.store (enc := encH) encH_len hO (by decide) (by simp) (y := x) (encH_one x) hpp fun u' hO' _ _ => ⟨⟨by omega, by omega⟩, ⟨by omega, A', x :: B, x, by omega, by simpa using hAB, ?_, ?_⟩, ?_⟩
          · intro b hb'
            rcases List.mem_cons.1 hb' with rfl | hb'
            · exact hb
            · exact hBh b hb'
          · rw [set_mid] at hO'
            simpa using hO'
          · rw [List.length_append, List.length_singleton]
            omega
        · refine place pp hpp fun y hy => ?_
          rcases List.mem_append.1 hy with hy | hy
          · rw [← hAB] at hsrt
            have := (List.pairwise_append.1 (hsrt.append).1).2.2 y hy x (by simp)
            exact hlt_le_trans this hb
          · simp at hy; subst hy; exact hb
      · have hA0 : A = [] := by cases A with
          | nil => rfl
          | cons => simp at hk
        obtain ⟨pp, hpp, _⟩ := hO.hts.at (x := (A.length : Int)) (by omega) (by omega)
        refine ⟨_, e0, _, e1, _, e2, pp, hpp, ⟨by omega, by omega⟩, place pp hpp fun a ha => by rw [hA0] at ha; cases ha⟩
    clear hK5
    refine ⟨p, hp1, ⟨h0, hi⟩, p, hp1, ⟨h0, hi⟩, _, c0, _, c1, ?_, fun n hvn => ⟨H.le_ins _ hvn, ?_⟩⟩
    · refine spec.theodoliteref03_Far hiv (ht.mono hL.le) hvr hvq hlr fun x y hx hy hw => ⟨H.le.refl _, fun n hvn => ⟨H.le_ins _ hvn, st_new (zs := [.int .i64 0, .int .u64 0, .int .u64 0]) rfl (by simp [Value.oneCell']) (key n x y hvn hx hy hw)⟩⟩
    · have hle := H.le_ins (u := v) (b := n) (Obj.cells #[Value.int .i64 0, .int .u64 0, .int .u64 0] 66 (0, 0)) hvn
      refine spec.theodoliteref03_Far (hiv.mono hle) ((ht.mono hL.le).mono hle) hvr hvq hlr fun x y hx hy hw => ?_
      first
        | exact st_new (zs := [.int .i64 0, .int .u64 0, .int .u64 0]) rfl (by simp [Value.oneCell']) (key n x y hvn hx hy hw)
        | exact ⟨hle, st_new (zs := [.int .i64 0, .int .u64 0, .int .u64 0]) rfl (by simp [Value.oneCell']) (key n x y hvn hx hy hw)⟩
  · refine h _ _ ?_
    have hi' : i.toNat = l.length := by omega
    rw [hi', List.take_length] at hperm
    rw [← sortH_of hperm hsrt]
    exact hL

end Go.Proofs.YtncninpdlpemgaaGreat

/- VcHeapPure -/
namespace Go.Proofs.YtncninpdlpemgaaGreat

/-- Two elements change places. -/
def swapL {α : Type} (l : List α) (i j : Nat) : List α :=
  match l[i]?, l[j]? with
  | some a, some b => (l.set i b).set j a
  | _, _ => l

theorem swapL_eq {α : Type} {l : List α} {i j : Nat} (hi : i < l.length) (hj : j < l.length) : swapL l i j = (l.set i l[j]).set j l[i] := by
  simp [swapL, hi, hj]

theorem swapL_len {α : Type} (l : List α) (i j : Nat) : (swapL l i j).length = l.length := by
  unfold swapL; split <;> simp

theorem swapL_perm {α : Type} {l : List α} {i j : Nat} (hi : i < l.length) (hj : j < l.length) : (swapL l i j).Perm l := by
  rw [swapL_eq hi hj]
  exact List.set_set_perm hi hj

theorem swapL_get {α : Type} {l : List α} {i j k : Nat} (hi : i < l.length) (hj : j < l.length) (hk : k < l.length) :
    (swapL l i j)[k]? = if k = j then some l[i] else if k = i then some l[j] else some l[k] := by
  rw [swapL_eq hi hj]
  simp only [List.getElem?_set, List.length_set]
  by_cases h1 : j = k
  · subst h1; simp [hj]
  · by_cases h2 : i = k
    · subst h2; simp [h1, hi, Ne.symm h1]
    · simp [h1, h2, Ne.symm h1, Ne.symm h2, hk]

/-- What a comparison must be. -/
structure LtOk {α : Type} (lt : α → α → Bool) : Prop where
  asymm : ∀ a b, lt a b = true → lt b a = false
  trans : ∀ a b c, lt b a = false → lt c b = false → lt c a = false

variable {α : Type} [Inhabited α] {lt : α → α → Bool}

abbrev pa (i : Nat) : Nat := (i - 1) / 2

/-- No child is before its parent. -/
def Hp (lt : α → α → Bool) (n : Nat) (l : List α) : Prop := ∀ i, 0 < i → i < n → lt (l.getD i default) (l.getD (pa i) default) = false

/-- But for one child and its parent. -/
structure UpI (lt : α → α → Bool) (l : List α) (j : Nat) : Prop where
  inn : j < l.length
  others : ∀ i, 0 < i → i < l.length → i ≠ j → lt (l.getD i default) (l.getD (pa i) default) = false
  over : ∀ i, 0 < i → i < l.length → pa i = j → 0 < j → lt (l.getD i default) (l.getD (pa j) default) = false

theorem swapL_getD {l : List α} {i j k : Nat} (hi : i < l.length) (hj : j < l.length) (hk : k < l.length) :
    (swapL l i j).getD k default = if k = j then l.getD i default else if k = i then l.getD j default else l.getD k default := by
  rw [List.getD_eq_getElem?_getD, swapL_get hi hj hk]
  (repeat' split) <;> simp [hi, hj, hk]

theorem UpI.done {l : List α} {j : Nat} (h : UpI lt l j) (hd : j = 0 ∨ lt (l.getD j default) (l.getD (pa j) default) = false) : Hp lt l.length l := by
  intro i h0 hi
  by_cases hij : i = j
  · subst hij
    rcases hd with h | h
    · omega
    · exact h
  · exact h.others i h0 hi hij

theorem UpI.step (hL : LtOk lt) {l : List α} {j : Nat} (h : UpI lt l j) (hj : 0 < j) (hl : lt (l.getD j default) (l.getD (pa j) default) = true) : UpI lt (swapL l (pa j) j) (pa j) := by
  have hjl := h.inn
  have hpl : pa j < j := by unfold pa; omega
  have hlen := swapL_len l (pa j) j
  have g : ∀ k, k < l.length → (swapL l (pa j) j).getD k default = if k = j then l.getD (pa j) default else if k = pa j then l.getD j default else l.getD k default :=
    fun k hk => swapL_getD (by omega) hjl hk
  refine ⟨by omega, ?_, ?_⟩
  · intro i h0 hi hne
    rw [hlen] at hi
    have hpi : pa i < i := by unfold pa; omega
    rw [g i hi, g (pa i) (by omega)]
    by_cases hij : i = j
    · subst hij
      rw [if_pos rfl, if_neg (by omega), if_pos rfl]
      exact hL.asymm _ _ hl
    · rw [if_neg hij, if_neg hne]
      by_cases hpij : pa i = j
      · rw [if_pos hpij]
        exact h.over i h0 hi hpij hj
      · rw [if_neg hpij]
        by_cases hpp : pa i = pa j
        · rw [if_pos hpp]
          have := h.others i h0 hi hij
          rw [hpp] at this
          exact hL.trans _ _ _ (hL.asymm _ _ hl) this
        · rw [if_neg hpp]
          exact h.others i h0 hi hij
  · intro i h0 hi hpi hpj
    rw [hlen] at hi
    have hppj : pa (pa j) < pa j := by unfold pa at *; omega
    have hii : pa i < i := by unfold pa; omega
    rw [g i hi, g (pa (pa j)) (by omega), if_neg (by omega : ¬ pa (pa j) = j), if_neg (by omega : ¬ pa (pa j) = pa j)]
    have hpp := h.others (pa j) hpj (by omega) (by omega)
    by_cases hij : i = j
    · rw [if_pos hij]; exact hpp
    · rw [if_neg hij, if_neg (by omega)]
      have := h.others i h0 hi hij
      rw [hpi] at this
      exact hL.trans _ _ _ hpp this

/-- But for one parent and its children, within the first n. -/
structure DownI (lt : α → α → Bool) (n : Nat) (l : List α) (j : Nat) : Prop where
  le : n ≤ l.length
  others : ∀ i, 0 < i → i < n → pa i ≠ j → lt (l.getD i default) (l.getD (pa i) default) = false
  over : ∀ i, 0 < i → i < n → pa i = j → 0 < j → lt (l.getD i default) (l.getD (pa j) default) = false

theorem DownI.done {n : Nat} {l : List α} {j : Nat} (h : DownI lt n l j) (hd : ∀ i, 0 < i → i < n → pa i = j → lt (l.getD i default) (l.getD j default) = false) : Hp lt n l := by
  intro i h0 hi
  by_cases hij : pa i = j
  · rw [hij]; exact hd i h0 hi hij
  · exact h.others i h0 hi hij

theorem DownI.step (hL : LtOk lt) {n : Nat} {l : List α} {j c : Nat} (h : DownI lt n l j) (hc0 : 0 < c) (hc : c < n) (hcj : pa c = j) (hl : lt (l.getD c default) (l.getD j default) = true)
    (hm : ∀ i, 0 < i → i < n → pa i = j → lt (l.getD i default) (l.getD c default) = false) : DownI lt n (swapL l j c) c := by
  have hn := h.le
  have hjc : j < c := by rw [← hcj]; unfold pa; omega
  have hlen := swapL_len l j c
  have g : ∀ k, k < l.length → (swapL l j c).getD k default = if k = c then l.getD j default else if k = j then l.getD c default else l.getD k default :=
    fun k hk => swapL_getD (by omega) (by omega) hk
  refine ⟨by omega, ?_, ?_⟩
  · intro i h0 hi hne
    have hpi : pa i < i := by unfold pa; omega
    rw [g i (by omega), g (pa i) (by omega), if_neg hne]
    by_cases hic : i = c
    · subst hic
      rw [if_pos rfl, if_pos hcj]
      exact hL.asymm _ _ hl
    · rw [if_neg hic]
      by_cases hij : i = j
      · subst hij
        rw [if_pos rfl, if_neg (by omega)]
        have := h.over c hc0 hc hcj h0
        exact this
      · rw [if_neg hij]
        by_cases hpj : pa i = j
        · rw [if_pos hpj]; exact hm i h0 hi hpj
        · rw [if_neg hpj]; exact h.others i h0 hi hpj
  · intro i h0 hi hpi _
    have hpi' : pa i < i := by unfold pa; omega
    rw [g i (by omega), g (pa c) (by omega), if_neg (by omega : ¬ i = c), if_neg (by omega : ¬ i = j), hcj, if_neg (by omega : ¬ j = c), if_pos rfl]
    have := h.others i h0 hi (by omega)
    rw [hpi] at this
    exact this

theorem Hp.root (hL : LtOk lt) {n : Nat} {l : List α} (h : Hp lt n l) : ∀ i, i < n → lt (l.getD i default) (l.getD 0 default) = false := by
  intro i
  induction i using Nat.strongRecOn with
  | _ i ih =>
    intro hi
    by_cases h0 : i = 0
    · subst h0
      cases e : lt (l.getD 0 default) (l.getD 0 default) with
      | false => rfl
      | true => have := hL.asymm _ _ e; rw [e] at this; cases this
    · have hp : pa i < i := by unfold pa; omega
      exact hL.trans _ _ _ (ih (pa i) hp (by omega)) (h i (by omega) hi)

end Go.Proofs.YtncninpdlpemgaaGreat

/- VcHeap -/
namespace Go.Proofs.YtncninpdlpemgaaGreat

/-! ### methods found -/

theorem wrapNil (ts : Array TypeId) (t : TypeId) (p : Addr) (a b : ByteArray) : Builtin.ssaWrapNilChk_ ts t #[.pointer (some p), .string a, .string b] = pure (.pointer (some p)) := rfl

/-- A method that an entry of a pointer's method table names, its receiver a value: the value is loaded. -/
theorem run_method_val {P : Program} {fuel : Nat} {t e : TypeId} {i : TypeInfo} {name : String} {m : Method} {f : FuncId} (hi : P.info? t = some i) (hm : i.methods.find? (·.name == name) = some m) (hp : m.path = #[])
    (hf : m.func = some (f, false)) (hu : P.underlying t = some (.pointer e)) {p : Addr} {v : Value} {w : World} (hl : (loadVar e p).run P w = .ok v w) :
    (method (fuel + 1) t (.pointer (some p)) name).run P w = .ok (f, v) w := by
  unfold method
  simp [Sem.run_bind, typeInfo, hi, Result.andThen, hm, hp, hf, follow, receiverAt, run_underlying hu, Place.get, wrapNil, strVal, asAddr, hl]

theorem run_method_ptr {P : Program} {fuel : Nat} {t e : TypeId} {i : TypeInfo} {name : String} {m : Method} {f : FuncId} (hi : P.info? t = some i) (hm : i.methods.find? (·.name == name) = some m) (hp : m.path = #[])
    (hf : m.func = some (f, true)) (hu : P.underlying t = some (.pointer e)) {p : Option Addr} {w : World} :
    (method (fuel + 1) t (.pointer p) name).run P w = .ok (f, .pointer p) w := by
  unfold method
  simp [Sem.run_bind, typeInfo, hi, Result.andThen, hm, hp, hf, follow, receiverAt, run_underlying hu, Place.get]

theorem swapL_out {α : Type} {l : List α} {i j k : Nat} (hi : i ≠ k) (hj : j ≠ k) : (swapL l i j)[k]? = l[k]? := by
  unfold swapL
  split
  · rw [List.getElem?_set_ne hj, List.getElem?_set_ne hi]
  · rfl

/-- What one asks of a value that is a heap. -/
structure HeapI {α : Type} [Inhabited α] (recv : Value) (St : H → List α → Prop) (lt : α → α → Bool) : Prop where
  len : ∀ {u l} {K : Int → H → Prop}, St u l → K (l.length : Int) u → ClI Tryz.prog recv "Len" #[] [.one (.int .i64)] u K
  less : ∀ {u l} {i j : Int} {K : Bool → H → Prop}, St u l → 0 ≤ i → i < l.length → 0 ≤ j → j < l.length → K (lt (l.getD i.toNat default) (l.getD j.toNat default)) u →
    ClI Tryz.prog recv "Less" #[.int .i64 i, .int .i64 j] [.one .bool] u K
  swap : ∀ {u l} {i j : Int} {K : H → Prop}, St u l → 0 ≤ i → i < l.length → 0 ≤ j → j < l.length → (∀ u', St u' (swapL l i.toNat j.toNat) → K u') →
    ClI Tryz.prog recv "Swap" #[.int .i64 i, .int .i64 j] [] u K
  small : ∀ {u l}, St u l → l.length ≤ 1099511627776

section
variable {α : Type} [Inhabited α] {recv : Value} {St : H → List α → Prop} {lt : α → α → Bool}

theorem spec.heap_up (I : HeapI recv St lt) (L : LtOk lt) {u : H} {l : List α} {j : Int} {K : H → Prop} (hs : St u l) (h0 : 0 ≤ j) (hu : UpI lt l j.toNat)
    (hK : ∀ u' l', St u' l' → l'.Perm l → Hp lt l'.length l' → K u') : C.heap_up recv j u K := by
  have hsm := I.small hs
  apply vc.heap_up
  refine ⟨fun x v => 0 ≤ x ∧ ∃ l', St v l' ∧ l'.Perm l ∧ UpI lt l' x.toNat, fun x _ => x.toNat, ⟨h0, l, hs, .refl _, hu⟩, ?_⟩
  rintro x v ⟨x0, l', hs', hp, hu'⟩
  have hlen := hp.length_eq
  have hin := hu'.inn
  refine ⟨⟨by omega, by omega⟩, by decide, ?_⟩
  by_cases hx : x = 0
  · subst hx
    refine ⟨⟨by decide, by decide⟩, fun _ => hK _ _ hs' hp (hu'.done (.inl rfl)), fun h => absurd (by decide) h⟩
  · have ht : Int.tdiv (x - 1) 2 = (x - 1) / 2 := Int.tdiv_eq_ediv_of_nonneg (by omega)
    have hpa : ((x - 1) / 2).toNat = pa x.toNat := by unfold pa; omega
    rw [ht]
    refine ⟨⟨by omega, by omega⟩, fun h => by omega, fun _ => I.less hs' x0 (by omega) (by omega) (by omega) ?_⟩
    rw [hpa]
    refine ⟨fun hb => hK _ _ hs' hp (hu'.done (.inr (by simpa using hb))), fun hb => I.swap hs' (by omega) (by omega) x0 (by omega) fun u' hs2 => ⟨⟨by omega, _, hs2, ?_, ?_⟩, by dsimp only; omega⟩⟩
    · rw [hpa]
      exact (swapL_perm (by unfold pa; omega) hin).trans hp
    · rw [hpa]
      exact hu'.step L (by omega) hb

theorem spec.heap_down (I : HeapI recv St lt) (L : LtOk lt) {u : H} {l : List α} {j n : Int} {K : Bool → H → Prop} (hs : St u l) (h0 : 0 ≤ j) (hn : n ≤ l.length) (hu : DownI lt n.toNat l j.toNat)
    (hK : ∀ b u' l', St u' l' → l'.Perm l → Hp lt n.toNat l' → (∀ k : Nat, n ≤ k → l'[k]? = l[k]?) → K b u') (hj : j < n ∨ j ≤ 0) : C.heap_down recv j n u K := by
  have hsm := I.small hs
  apply vc.heap_down
  intro K0 hK0
  refine ⟨fun x v => 0 ≤ x ∧ (x < n ∨ x ≤ 0) ∧ ∃ l', St v l' ∧ l'.Perm l ∧ DownI lt n.toNat l' x.toNat ∧ ∀ k : Nat, n ≤ k → l'[k]? = l[k]?, fun x _ => (n - x).toNat, ⟨h0, hj, l, hs, .refl _, hu, fun _ _ => rfl⟩, ?_⟩
  rintro x v ⟨x0, hxn, l', hs', hp, hd, hout⟩
  have hlen := hp.length_eq
  have done : ∀ {v'}, St v' l' → (∀ i, 0 < i → i < n.toNat → pa i = x.toNat → lt (l'.getD i default) (l'.getD x.toNat default) = false) → K0 x v' := fun hs2 h =>
    hK0 _ _ (hK _ _ _ hs2 hp (hd.done h) hout)
  refine ⟨⟨by omega, by omega⟩, ⟨by omega, by omega⟩, fun K7 hK7 => ⟨fun h => done hs' fun i i0 i1 i2 => by unfold pa at i2; omega, fun h => ⟨fun h2 => by omega, fun _ => hK7 _ ?_⟩⟩⟩
  clear hK7 K7
  intro K9 hK9
  have turn : ∀ c : Int, 0 < c → c < n → pa c.toNat = x.toNat → (∀ i, 0 < i → i < n.toNat → pa i = x.toNat → lt (l'.getD i default) (l'.getD c.toNat default) = false) → K9 c v := by
    intro c c0 c1 c2 hm
    have hcx : x < c := by unfold pa at c2; omega
    refine hK9 _ _ (I.less hs' (by omega) (by omega) x0 (by omega) ⟨fun hb => done hs' fun i i0 i1 i2 => ?_, fun hb => I.swap hs' x0 (by omega) (by omega) (by omega) fun u' hs2 => ⟨⟨by omega, .inl c1, _, hs2, ?_, ?_, ?_⟩, by dsimp only; omega⟩⟩)
    · exact L.trans _ _ _ (by simpa using hb) (hm i i0 i1 i2)
    · exact (swapL_perm (by omega) (by omega)).trans hp
    · exact hd.step L (by omega) (by omega) c2 hb hm
    · intro k hk
      rw [swapL_out (by omega) (by omega)]
      exact hout k hk
  clear hK9
  have irr : ∀ a, lt a a = false := fun a => by
    cases e : lt a a with
    | false => rfl
    | true => have := L.asymm _ _ e; rw [e] at this; cases this
  have p1 : pa (2 * x + 1).toNat = x.toNat := by unfold pa; omega
  have p2 : pa (2 * x + 1 + 1).toNat = x.toNat := by unfold pa; omega
  have two : ∀ i, 0 < i → i < n.toNat → pa i = x.toNat → i = (2 * x + 1).toNat ∨ i = (2 * x + 1 + 1).toNat := fun i i0 _ i2 => by unfold pa at i2; omega
  refine ⟨⟨by omega, by omega⟩, fun h2 => I.less hs' (by omega) (by omega) (by omega) (by omega) ⟨fun hb => turn _ (by omega) h2 p2 fun i i0 i1 i2 => ?_, fun hb => turn _ (by omega) (by omega) p1 fun i i0 i1 i2 => ?_⟩,
    fun h2 => turn _ (by omega) (by omega) p1 fun i i0 i1 i2 => ?_⟩
  · rcases two i i0 i1 i2 with rfl | rfl
    · exact L.asymm _ _ hb
    · exact irr _
  · rcases two i i0 i1 i2 with rfl | rfl
    · exact irr _
    · exact hb
  · rcases two i i0 i1 i2 with rfl | rfl
    · exact irr _
    · omega

theorem Hp.downI {l : List α} {n : Nat} (h : Hp lt n l) (hn : n ≤ l.length) (y : α) : DownI lt n (l.set 0 y) 0 := by
  refine ⟨by simpa using hn, fun i i0 i1 i2 => ?_, fun i i0 i1 i2 h0 => by omega⟩
  have hp : pa i ≠ 0 := i2
  have g : ∀ k, k ≠ 0 → (l.set 0 y).getD k default = l.getD k default := fun k hk => by
    rw [List.getD_eq_getElem?_getD, List.getElem?_set_ne (Ne.symm hk), ← List.getD_eq_getElem?_getD]
  rw [g i (by omega), g _ hp]
  exact h i i0 i1

/-- Where the root may be wrong alone. -/
theorem spec.heap_Fix (I : HeapI recv St lt) (L : LtOk lt) {u : H} {l : List α} {K : H → Prop} (hs : St u l) (hne : 0 < l.length) (hd : DownI lt l.length l 0)
    (hK : ∀ u' l', St u' l' → l'.Perm l → Hp lt l'.length l' → K u') : C.heap_Fix recv 0 u K := by
  apply vc.heap_Fix
  refine I.len hs (spec.heap_down I L hs (by omega) (by omega) (by simpa using hd) (fun b u' l' hs' hp hh _ => ?_) (.inl (by omega)))
  have hlen := hp.length_eq
  have hh' : Hp lt l'.length l' := by rw [hlen]; simpa using hh
  refine ⟨fun _ => spec.heap_up I L hs' (by omega) ⟨by show 0 < l'.length; omega, fun i i0 i1 _ => hh' i i0 i1, fun i i0 i1 _ h => absurd h (by decide)⟩ fun u2 l2 hs2 hp2 hh2 => hK _ _ hs2 (hp2.trans hp) hh2, fun _ => hK _ _ hs' hp hh'⟩

theorem spec.heap_Push (I : HeapI recv St lt) (L : LtOk lt) {u : H} {l : List α} {x : Value} {y : α} {K : H → Prop} (hh : Hp lt l.length l)
    (hpush : ∀ {K : H → Prop}, (∀ u', St u' (l ++ [y]) → K u') → ClI Tryz.prog recv "Push" #[x] [] u K)
    (hK : ∀ u' l', St u' l' → l'.Perm (l ++ [y]) → Hp lt l'.length l' → K u') : C.heap_Push recv x u K := by
  apply vc.heap_Push
  refine hpush fun u' hs => I.len hs ?_
  have hsm := I.small hs
  simp only [List.length_append, List.length_singleton] at hsm ⊢
  refine ⟨⟨by omega, by omega⟩, spec.heap_up I L hs (by omega) ⟨by simp, fun i i0 i1 i2 => ?_, fun i i0 i1 i2 => ?_⟩ hK⟩
  · simp only [List.length_append, List.length_singleton] at i1
    have hi : i < l.length := by omega
    have g : ∀ k, k < l.length → (l ++ [y]).getD k default = l.getD k default := fun k hk => by
      rw [List.getD_eq_getElem?_getD, List.getElem?_append_left hk, ← List.getD_eq_getElem?_getD]
    rw [g i hi, g _ (by unfold pa; omega)]
    exact hh i i0 hi
  · simp only [List.length_append, List.length_singleton] at i1
    unfold pa at i2
    omega

end

end Go.Proofs.YtncninpdlpemgaaGreat

/- VcShelf -/
namespace Go.Proofs
open Go.Shelf
def Tryz.sortHits_ren : Go.Shelf.Ren := ⟨fun | 6 => 90 | 15 => 117 | 14 => 120 | 28 => 143 | 29 => 144 | 20 => 145 | 21 => 146 | 22 => 147 | 23 => 148 | 24 => 149 | 25 => 150 | 26 => 151 | 27 => 152 | 46 => 173 | 47 => 169 | 48 => 170 | 49 => 174 | 50 => 175 | 57 => 183 | n => n, fun | 22 => 50 | 24 => 66 | 25 => 137 | 3 => 3 | 39 => 153 | 0 => 0 | 53 => 197 | 55 => 23 | 4 => 4 | 46 => 190 | 45 => 189 | 50 => 194 | 5 => 5 | 9 => 9 | 66 => 212 | 70 => 216 | 76 => 224 | 77 => 225 | n => n, fun | n => n⟩
theorem Tryz.sortHits : Go.Proofs.SlLaysF0.n6 Tryz.prog Tryz.sortHits_ren := {
  mixed := by kernel_rfl
  f6 := ⟨Tryz.f90.name, by decide, Tryz.func90.trans (congrArg some (by kernel_rfl))⟩
  f14 := ⟨Tryz.f120.name, by decide, Tryz.func120.trans (congrArg some (by kernel_rfl))⟩
  f15 := Tryz.func117.trans (congrArg some (by kernel_rfl))
  f20 := ⟨Tryz.f145.name, by decide, Tryz.func145.trans (congrArg some (by kernel_rfl))⟩
  f21 := ⟨Tryz.f146.name, by decide, Tryz.func146.trans (congrArg some (by kernel_rfl))⟩
  f22 := ⟨Tryz.f147.name, by decide, Tryz.func147.trans (congrArg some (by kernel_rfl))⟩
  f23 := ⟨Tryz.f148.name, by decide, Tryz.func148.trans (congrArg some (by kernel_rfl))⟩
  f24 := ⟨Tryz.f149.name, by decide, Tryz.func149.trans (congrArg some (by kernel_rfl))⟩
  f25 := ⟨Tryz.f150.name, by decide, Tryz.func150.trans (congrArg some (by kernel_rfl))⟩
  f26 := ⟨Tryz.f151.name, by decide, Tryz.func151.trans (congrArg some (by kernel_rfl))⟩
  f27 := ⟨Tryz.f152.name, by decide, Tryz.func152.trans (congrArg some (by kernel_rfl))⟩
  f28 := Tryz.func143.trans (congrArg some (by kernel_rfl))
  f29 := Tryz.func144.trans (congrArg some (by kernel_rfl))
  f46 := ⟨Tryz.f173.name, by decide, Tryz.func173.trans (congrArg some (by kernel_rfl))⟩
  f47 := Tryz.func169.trans (congrArg some (by kernel_rfl))
  f48 := Tryz.func170.trans (congrArg some (by kernel_rfl))
  f49 := ⟨Tryz.f174.name, by decide, Tryz.func174.trans (congrArg some (by kernel_rfl))⟩
  f50 := ⟨Tryz.f175.name, by decide, Tryz.func175.trans (congrArg some (by kernel_rfl))⟩
  f57 := ⟨Tryz.f183.name, by decide, Tryz.func183.trans (congrArg some (by kernel_rfl))⟩
  t0 := Tryz.underlying0
  a0 := Tryz.isAgg0
  z0 := Tryz.sizeOf0
  v0 := Tryz.zeroValue0
  t3 := Tryz.underlying3
  a3 := Tryz.isAgg3
  z3 := Tryz.sizeOf3
  v3 := Tryz.zeroValue3
  t4 := Tryz.underlying4
  a4 := Tryz.isAgg4
  z4 := Tryz.sizeOf4
  v4 := Tryz.zeroValue4
  t5 := Tryz.underlying5
  a5 := Tryz.isAgg5
  z5 := Tryz.sizeOf5
  v5 := Tryz.zeroValue5
  t9 := Tryz.underlying9
  a9 := Tryz.isAgg9
  z9 := Tryz.sizeOf9
  v9 := Tryz.zeroValue9
  t22 := Tryz.underlying50
  a22 := Tryz.isAgg50
  z22 := Tryz.sizeOf50
  v22 := Tryz.zeroValue50
  t25 := Tryz.underlying137
  a25 := Tryz.isAgg137
  z25 := Tryz.sizeOf137
  v25 := Tryz.zeroValue137
  t39 := Tryz.underlying153
  a39 := Tryz.isAgg153
  z39 := Tryz.sizeOf153
  v39 := Tryz.zeroValue153
  t45 := Tryz.underlying189
  a45 := Tryz.isAgg189
  z45 := Tryz.sizeOf189
  v45 := Tryz.zeroValue189
  t46 := Tryz.underlying190
  a46 := Tryz.isAgg190
  z46 := Tryz.sizeOf190
  v46 := Tryz.zeroValue190
  t50 := Tryz.underlying194
  a50 := Tryz.isAgg194
  z50 := Tryz.sizeOf194
  v50 := Tryz.zeroValue194
  t53 := Tryz.underlying197
  a53 := Tryz.isAgg197
  z53 := Tryz.sizeOf197
  v53 := Tryz.zeroValue197
  t55 := Tryz.underlying23
  a55 := Tryz.isAgg23
  z55 := Tryz.sizeOf23
  v55 := Tryz.zeroValue23
  t66 := Tryz.underlying212
  a66 := Tryz.isAgg212
  z66 := Tryz.sizeOf212
  v66 := Tryz.zeroValue212
  t70 := Tryz.underlying216
  a70 := Tryz.isAgg216
  z70 := Tryz.sizeOf216
  v70 := Tryz.zeroValue216
  t76 := Tryz.underlying224
  a76 := Tryz.isAgg224
  z76 := Tryz.sizeOf224
  v76 := Tryz.zeroValue224
  t77 := Tryz.underlying225
  a77 := Tryz.isAgg225
  z77 := Tryz.sizeOf225
  v77 := Tryz.zeroValue225 }
def Tryz.sortInts_ren : Go.Shelf.Ren := ⟨fun | 53 => 115 | 64 => 117 | 63 => 135 | 78 => 143 | 79 => 144 | 70 => 159 | 71 => 160 | 72 => 161 | 73 => 162 | 74 => 163 | 75 => 164 | 59 => 165 | 76 => 166 | 77 => 167 | 88 => 179 | 89 => 169 | 90 => 170 | 91 => 180 | 92 => 181 | 68 => 153 | 96 => 184 | n => n, fun | 22 => 41 | 23 => 3 | 3 => 3 | 51 => 153 | 0 => 0 | 67 => 197 | 69 => 23 | 4 => 4 | 61 => 190 | 60 => 189 | 44 => 194 | 5 => 5 | 9 => 9 | 75 => 212 | 79 => 216 | 83 => 224 | 84 => 225 | n => n, fun | n => n⟩
theorem Tryz.sortInts : Go.Proofs.SlLaysN.n53 Tryz.prog Tryz.sortInts_ren := {
  mixed := by kernel_rfl
  f53 := ⟨Tryz.f115.name, by decide, Tryz.func115.trans (congrArg some (by kernel_rfl))⟩
  f59 := ⟨Tryz.f165.name, by decide, Tryz.func165.trans (congrArg some (by kernel_rfl))⟩
  f63 := ⟨Tryz.f135.name, by decide, Tryz.func135.trans (congrArg some (by kernel_rfl))⟩
  f64 := Tryz.func117.trans (congrArg some (by kernel_rfl))
  f68 := ⟨Tryz.f153.name, by decide, Tryz.func153.trans (congrArg some (by kernel_rfl))⟩
  f70 := ⟨Tryz.f159.name, by decide, Tryz.func159.trans (congrArg some (by kernel_rfl))⟩
  f71 := ⟨Tryz.f160.name, by decide, Tryz.func160.trans (congrArg some (by kernel_rfl))⟩
  f72 := ⟨Tryz.f161.name, by decide, Tryz.func161.trans (congrArg some (by kernel_rfl))⟩
  f73 := ⟨Tryz.f162.name, by decide, Tryz.func162.trans (congrArg some (by kernel_rfl))⟩
  f74 := ⟨Tryz.f163.name, by decide, Tryz.func163.trans (congrArg some (by kernel_rfl))⟩
  f75 := ⟨Tryz.f164.name, by decide, Tryz.func164.trans (congrArg some (by kernel_rfl))⟩
  f76 := ⟨Tryz.f166.name, by decide, Tryz.func166.trans (congrArg some (by kernel_rfl))⟩
  f77 := ⟨Tryz.f167.name, by decide, Tryz.func167.trans (congrArg some (by kernel_rfl))⟩
  f78 := Tryz.func143.trans (congrArg some (by kernel_rfl))
  f79 := Tryz.func144.trans (congrArg some (by kernel_rfl))
  f88 := ⟨Tryz.f179.name, by decide, Tryz.func179.trans (congrArg some (by kernel_rfl))⟩
  f89 := Tryz.func169.trans (congrArg some (by kernel_rfl))
  f90 := Tryz.func170.trans (congrArg some (by kernel_rfl))
  f91 := ⟨Tryz.f180.name, by decide, Tryz.func180.trans (congrArg some (by kernel_rfl))⟩
  f92 := ⟨Tryz.f181.name, by decide, Tryz.func181.trans (congrArg some (by kernel_rfl))⟩
  f96 := ⟨Tryz.f184.name, by decide, Tryz.func184.trans (congrArg some (by kernel_rfl))⟩
  t0 := Tryz.underlying0
  a0 := Tryz.isAgg0
  z0 := Tryz.sizeOf0
  v0 := Tryz.zeroValue0
  t3 := Tryz.underlying3
  a3 := Tryz.isAgg3
  z3 := Tryz.sizeOf3
  v3 := Tryz.zeroValue3
  t4 := Tryz.underlying4
  a4 := Tryz.isAgg4
  z4 := Tryz.sizeOf4
  v4 := Tryz.zeroValue4
  t5 := Tryz.underlying5
  a5 := Tryz.isAgg5
  z5 := Tryz.sizeOf5
  v5 := Tryz.zeroValue5
  t9 := Tryz.underlying9
  a9 := Tryz.isAgg9
  z9 := Tryz.sizeOf9
  v9 := Tryz.zeroValue9
  t22 := Tryz.underlying41
  a22 := Tryz.isAgg41
  z22 := Tryz.sizeOf41
  v22 := Tryz.zeroValue41
  t23 := Tryz.underlying3
  a23 := Tryz.isAgg3
  z23 := Tryz.sizeOf3
  v23 := Tryz.zeroValue3
  t44 := Tryz.underlying194
  a44 := Tryz.isAgg194
  z44 := Tryz.sizeOf194
  v44 := Tryz.zeroValue194
  t51 := Tryz.underlying153
  a51 := Tryz.isAgg153
  z51 := Tryz.sizeOf153
  v51 := Tryz.zeroValue153
  t60 := Tryz.underlying189
  a60 := Tryz.isAgg189
  z60 := Tryz.sizeOf189
  v60 := Tryz.zeroValue189
  t61 := Tryz.underlying190
  a61 := Tryz.isAgg190
  z61 := Tryz.sizeOf190
  v61 := Tryz.zeroValue190
  t67 := Tryz.underlying197
  a67 := Tryz.isAgg197
  z67 := Tryz.sizeOf197
  v67 := Tryz.zeroValue197
  t69 := Tryz.underlying23
  a69 := Tryz.isAgg23
  z69 := Tryz.sizeOf23
  v69 := Tryz.zeroValue23
  t75 := Tryz.underlying212
  a75 := Tryz.isAgg212
  z75 := Tryz.sizeOf212
  v75 := Tryz.zeroValue212
  t79 := Tryz.underlying216
  a79 := Tryz.isAgg216
  z79 := Tryz.sizeOf216
  v79 := Tryz.zeroValue216
  t83 := Tryz.underlying224
  a83 := Tryz.isAgg224
  z83 := Tryz.sizeOf224
  v83 := Tryz.zeroValue224
  t84 := Tryz.underlying225
  a84 := Tryz.isAgg225
  z84 := Tryz.sizeOf225
  v84 := Tryz.zeroValue225 }
def Tryz.sortRows_ren : Go.Shelf.Ren := ⟨fun | 6 => 81 | 15 => 117 | 14 => 116 | 28 => 143 | 29 => 144 | 20 => 131 | 21 => 136 | 22 => 137 | 23 => 138 | 24 => 139 | 25 => 140 | 26 => 141 | 27 => 142 | 46 => 168 | 47 => 169 | 48 => 170 | 49 => 171 | 50 => 172 | 57 => 182 | n => n, fun | 22 => 22 | 24 => 43 | 25 => 120 | 3 => 3 | 39 => 153 | 0 => 0 | 53 => 197 | 55 => 23 | 4 => 4 | 46 => 190 | 45 => 189 | 50 => 194 | 5 => 5 | 9 => 9 | 66 => 212 | 70 => 216 | 76 => 224 | 77 => 225 | n => n, fun | n => n⟩
theorem Tryz.sortRows : Go.Proofs.SlLaysF0.n6 Tryz.prog Tryz.sortRows_ren := {
  mixed := by kernel_rfl
  f6 := ⟨Tryz.f81.name, by decide, Tryz.func81.trans (congrArg some (by kernel_rfl))⟩
  f14 := ⟨Tryz.f116.name, by decide, Tryz.func116.trans (congrArg some (by kernel_rfl))⟩
  f15 := Tryz.func117.trans (congrArg some (by kernel_rfl))
  f20 := ⟨Tryz.f131.name, by decide, Tryz.func131.trans (congrArg some (by kernel_rfl))⟩
  f21 := ⟨Tryz.f136.name, by decide, Tryz.func136.trans (congrArg some (by kernel_rfl))⟩
  f22 := ⟨Tryz.f137.name, by decide, Tryz.func137.trans (congrArg some (by kernel_rfl))⟩
  f23 := ⟨Tryz.f138.name, by decide, Tryz.func138.trans (congrArg some (by kernel_rfl))⟩
  f24 := ⟨Tryz.f139.name, by decide, Tryz.func139.trans (congrArg some (by kernel_rfl))⟩
  f25 := ⟨Tryz.f140.name, by decide, Tryz.func140.trans (congrArg some (by kernel_rfl))⟩
  f26 := ⟨Tryz.f141.name, by decide, Tryz.func141.trans (congrArg some (by kernel_rfl))⟩
  f27 := ⟨Tryz.f142.name, by decide, Tryz.func142.trans (congrArg some (by kernel_rfl))⟩
  f28 := Tryz.func143.trans (congrArg some (by kernel_rfl))
  f29 := Tryz.func144.trans (congrArg some (by kernel_rfl))
  f46 := ⟨Tryz.f168.name, by decide, Tryz.func168.trans (congrArg some (by kernel_rfl))⟩
  f47 := Tryz.func169.trans (congrArg some (by kernel_rfl))
  f48 := Tryz.func170.trans (congrArg some (by kernel_rfl))
  f49 := ⟨Tryz.f171.name, by decide, Tryz.func171.trans (congrArg some (by kernel_rfl))⟩
  f50 := ⟨Tryz.f172.name, by decide, Tryz.func172.trans (congrArg some (by kernel_rfl))⟩
  f57 := ⟨Tryz.f182.name, by decide, Tryz.func182.trans (congrArg some (by kernel_rfl))⟩
  t0 := Tryz.underlying0
  a0 := Tryz.isAgg0
  z0 := Tryz.sizeOf0
  v0 := Tryz.zeroValue0
  t3 := Tryz.underlying3
  a3 := Tryz.isAgg3
  z3 := Tryz.sizeOf3
  v3 := Tryz.zeroValue3
  t4 := Tryz.underlying4
  a4 := Tryz.isAgg4
  z4 := Tryz.sizeOf4
  v4 := Tryz.zeroValue4
  t5 := Tryz.underlying5
  a5 := Tryz.isAgg5
  z5 := Tryz.sizeOf5
  v5 := Tryz.zeroValue5
  t9 := Tryz.underlying9
  a9 := Tryz.isAgg9
  z9 := Tryz.sizeOf9
  v9 := Tryz.zeroValue9
  t22 := Tryz.underlying22
  a22 := Tryz.isAgg22
  z22 := Tryz.sizeOf22
  v22 := Tryz.zeroValue22
  t25 := Tryz.underlying120
  a25 := Tryz.isAgg120
  z25 := Tryz.sizeOf120
  v25 := Tryz.zeroValue120
  t39 := Tryz.underlying153
  a39 := Tryz.isAgg153
  z39 := Tryz.sizeOf153
  v39 := Tryz.zeroValue153
  t45 := Tryz.underlying189
  a45 := Tryz.isAgg189
  z45 := Tryz.sizeOf189
  v45 := Tryz.zeroValue189
  t46 := Tryz.underlying190
  a46 := Tryz.isAgg190
  z46 := Tryz.sizeOf190
  v46 := Tryz.zeroValue190
  t50 := Tryz.underlying194
  a50 := Tryz.isAgg194
  z50 := Tryz.sizeOf194
  v50 := Tryz.zeroValue194
  t53 := Tryz.underlying197
  a53 := Tryz.isAgg197
  z53 := Tryz.sizeOf197
  v53 := Tryz.zeroValue197
  t55 := Tryz.underlying23
  a55 := Tryz.isAgg23
  z55 := Tryz.sizeOf23
  v55 := Tryz.zeroValue23
  t66 := Tryz.underlying212
  a66 := Tryz.isAgg212
  z66 := Tryz.sizeOf212
  v66 := Tryz.zeroValue212
  t70 := Tryz.underlying216
  a70 := Tryz.isAgg216
  z70 := Tryz.sizeOf216
  v70 := Tryz.zeroValue216
  t76 := Tryz.underlying224
  a76 := Tryz.isAgg224
  z76 := Tryz.sizeOf224
  v76 := Tryz.zeroValue224
  t77 := Tryz.underlying225
  a77 := Tryz.isAgg225
  z77 := Tryz.sizeOf225
  v77 := Tryz.zeroValue225 }
end Go.Proofs
