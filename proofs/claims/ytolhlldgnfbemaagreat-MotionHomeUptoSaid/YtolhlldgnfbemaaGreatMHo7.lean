/- The law holds for every input: it returns true, and each argument reads behind the call as it did. Conditions: those of the form alone. -/
import Derived.Test.YtolhlldgnfbemaaGreatMHo6
set_option linter.unusedVariables false
set_option linter.unusedSimpArgs false
set_option linter.unusedSectionVars false
set_option maxRecDepth 100000
namespace Go.Proofs.YtolhlldgnfbemaaGreat
open Go Go.Vx
noncomputable def F8 (a0 : (Int × Sl × Sl × Sl × Unit)) (K : Bool → World → Prop) : World → Prop :=
 newO (.cells #[(.int .i64 a0.1), (.slice a0.2.1.a a0.2.1.len a0.2.1.cap), (.slice a0.2.2.1.a a0.2.2.1.len a0.2.2.1.cap), (.slice a0.2.2.2.1.a a0.2.2.2.1.len a0.2.2.2.1.cap)] 26) fun b1 =>
 lds c26 (at0 b1) fun (x2 : (Int × Sl × Sl × Sl × Unit)) =>
 callT Tryz.prog 11 #[(.agg (Cells.vals c26 x2).toArray)] (.tup [(.one .ptr), (.one .bool)]) fun (x3 : (Option Addr × Bool × Unit)) =>
 join (S := Bool × Unit) (fun J4 =>
 sif (!x3.2.1) (
 J4 (true, ())) (
 J4 ((Option.isNone x3.1), ()))) fun (s5 : Bool × Unit) =>
 sif s5.1 (
 K x3.2.1) (
 join (S := Unit) (fun J6 =>
 sloop (S := Int × Unit) (fun (s8 : Int × Unit) again9 =>
 ld (.sl) (⟨b1, 3, none⟩ : Addr) fun (x10 : Sl) =>
 sif (decide (s8.1 < ((x10.len : Nat) : Int))) (
 join (S := Unit) (fun J11 =>
 ld (.sl) (⟨b1, 3, none⟩ : Addr) fun (x13 : Sl) =>
 ix x13.a x13.len s8.1 fun p14 =>
 lds c33 (p14.add (scaled (Int.toNat s8.1) 7)) fun (x15 : (Int × Int × Int × Int × Int × Int × Bool × Unit)) =>
 newO (.cells #[(.int .i64 (0 : Int)), (.int .i64 (0 : Int)), (.int .i64 (0 : Int)), (.int .i64 (0 : Int)), (.int .i64 (0 : Int)), (.int .i64 (0 : Int)), (.bool false)] 33) fun b16 =>
 aggSt (at0 b16) (.agg (Cells.vals c33 x15).toArray) 7 <|
 ld (.int .i64) (⟨b16, 1, none⟩ : Addr) fun (x17 : Int) =>
 ld (.bool) (⟨b16, 6, none⟩ : Addr) fun (x18 : Bool) =>
 callT Tryz.prog 12 #[(.pointer x3.1), (.int .i64 x17), (.bool x18)] (.one (.one (.int .i64))) fun (x19 : Int) =>
 join (S := Bool × Unit) (fun J20 =>
 drew <|
 ld (.bool) (⟨b16, 6, none⟩ : Addr) fun (x22 : Bool) =>
 callT Tryz.prog 28 #[(.pointer x3.1), (.int .i64 x19), (.bool x22)] (.one (.one .bool)) fun (x23 : Bool) =>
 sif (!x23) (
 J20 (true, ())) (
 ld (.bool) (⟨b16, 6, none⟩ : Addr) fun (x24 : Bool) =>
 callT Tryz.prog 12 #[(.pointer x3.1), (.int .i64 x19), (.bool x24)] (.one (.one (.int .i64))) fun (x25 : Int) =>
 sif (x25 != x19) (
 J20 (true, ())) (
 ld (.int .i64) (⟨b16, 1, none⟩ : Addr) fun (x26 : Int) =>
 ld (.int .i64) (⟨b16, 2, none⟩ : Addr) fun (x27 : Int) =>
 ld (.bool) (⟨b16, 6, none⟩ : Addr) fun (x28 : Bool) =>
 ld (.bool) (⟨b16, 6, none⟩ : Addr) fun (x29 : Bool) =>
 callT Tryz.prog 29 #[(.pointer x3.1), (.int .i64 x26), (.int .i64 x27), (.bool x28)] (.one (.one (.int .i64))) fun (x30 : Int) =>
 keep (fun w => w.cell? (⟨b16, 6, none⟩ : Addr) = some (Cell.val (.bool) x29)) <|
 callT Tryz.prog 28 #[(.pointer x3.1), (.int .i64 x30), (.bool x29)] (.one (.one .bool)) fun (x31 : Bool) =>
 J20 ((!x31), ())))) fun (s21 : Bool × Unit) =>
 sif s21.1 (
 K false) (
 join (S := Bool × Unit) (fun J32 =>
 ld (.int .i64) (at0 b16) fun (x34 : Int) =>
 sif (decide (x34 < (4 : Int))) (
 J32 (true, ())) (
 ld (.int .i64) (at0 b16) fun (x35 : Int) =>
 J32 ((decide (x35 > (7 : Int))), ()))) fun (s33 : Bool × Unit) =>
 sif s33.1 (
 J11 ()) (
 join (S := Bool × Unit) (fun J36 =>
 ld (.bool) (⟨b16, 6, none⟩ : Addr) fun (x38 : Bool) =>
 sif x38 (
 ld (.int .i64) (at0 b16) fun (x39 : Int) =>
 sif (x39 == (4 : Int)) (
 J36 (true, ())) (
 ld (.int .i64) (at0 b16) fun (x40 : Int) =>
 J36 ((x40 == (6 : Int)), ()))) (
 J36 (false, ()))) fun (s37 : Bool × Unit) =>
 ld (.int .i64) (⟨b16, 1, none⟩ : Addr) fun (x41 : Int) =>
 ld (.int .i64) (⟨b16, 2, none⟩ : Addr) fun (x42 : Int) =>
 lds c33 (at0 b16) fun (x43 : (Int × Int × Int × Int × Int × Int × Bool × Unit)) =>
 callT Tryz.prog 27 #[(.pointer x3.1), (.int .i64 x41), (.int .i64 x42), (.agg (Cells.vals c33 x43).toArray)] (.tup [(.agg c43), (.one (.int .i64))]) fun (x44 : ((Int × Int × Int × Unit) × Int × Unit)) =>
 newO (.cells #[(.int .i64 (0 : Int)), (.int .i64 (0 : Int)), (.int .i64 (0 : Int))] 43) fun b45 =>
 aggSt (at0 b45) (.agg (Cells.vals c43 x44.1).toArray) 3 <|
 join (S := Bool × Unit) (fun J46 =>
 drew <|
 sif (x44.2.1 == (0 : Int)) (
 ld (.int .i64) (at0 b45) fun (x48 : Int) =>
 callT Tryz.prog 28 #[(.pointer x3.1), (.int .i64 x48), (.bool s37.1)] (.one (.one .bool)) fun (x49 : Bool) =>
 sif (!x49) (
 J46 (true, ())) (
 ld (.int .i64) (at0 b45) fun (x50 : Int) =>
 ld (.int .i64) (at0 b45) fun (x51 : Int) =>
 callT Tryz.prog 12 #[(.pointer x3.1), (.int .i64 x50), (.bool s37.1)] (.one (.one (.int .i64))) fun (x52 : Int) =>
 keep (fun w => w.cell? (at0 b45) = some (Cell.val (.int .i64) x51)) <|
 sif (x52 != x51) (
 J46 (true, ())) (
 ld (.int .i64) (⟨b45, 1, none⟩ : Addr) fun (x53 : Int) =>
 sif (decide (x53 < (0 : Int))) (
 J46 (true, ())) (
 ld (.int .i64) (⟨b45, 1, none⟩ : Addr) fun (x54 : Int) =>
 J46 ((decide (x54 > (2 : Int))), ()))))) (
 J46 (false, ()))) fun (s47 : Bool × Unit) =>
 sif s47.1 (
 K false) (
 join (S := Bool × Unit) (fun J55 =>
 sif (x44.2.1 != (0 : Int)) (
 ld (.int .i64) (at0 b45) fun (x57 : Int) =>
 sif (x57 != (0 : Int)) (
 J55 (true, ())) (
 ld (.int .i64) (⟨b45, 1, none⟩ : Addr) fun (x58 : Int) =>
 sif (x58 != (0 : Int)) (
 J55 (true, ())) (
 ld (.int .i64) (⟨b45, 2, none⟩ : Addr) fun (x59 : Int) =>
 J55 ((x59 != (0 : Int)), ())))) (
 J55 (false, ()))) fun (s56 : Bool × Unit) =>
 sif s56.1 (
 K false) (
 J11 ()))))) fun (s12 : Unit) =>
 again9 ((IntKind.wrap .i64 (s8.1 + (1 : Int))), ())) (
 J6 ())) ((0 : Int), ())) fun (s7 : Unit) =>
 K true)
noncomputable def h8 : Hint := (hS (hR 2) (hS (hR 7) (hS (hJ (4128768, [(21, tB)]) (.region [] (.ops 3 (.split 18 (.skips 2 (hO 1)) (hO 3)))) (hC (hS (hR 2) hL) hL)) (hJ (356811923176489970264571492362373784087300068, []) (hS (hR 1) (.block (.loop 356811923176489970264571492362373784087300068 [(5, tI)] (hS (hS (hR 5) (hC hL hL)) (hJ (356811923176489970264571492362373783021946820, []) (.block (hS (hR 7) (hS (hR 7) (hS (hJ (2361183239235799351296, [(70, tB)]) (.region [0, 1, 2, 3, 4, 5, 6, 7, 8, 9, 10, 12, 11, 13, 14, 15, 16, 17, 18, 19, 20, 21, 22, 23, 25, 26, 24, 27, 28, 29] (.ops 7 (.split 47 (.skips 7 (.ops 2 (.skips 13 (hO 1)))) (.ops 9 (.split 56 (.skips 13 (hO 1)) (hO 14)))))) (hC (hS (hR 1) hL) hL)) (hS (hJ (602101726565879764746240, [(78, tB)]) (.region [] (.ops 4 (.split 74 (.skips 3 (hO 1)) (hO 4)))) (hC hL hL)) (hJ (2475275615660953235210895616, [(8, tB)]) (.region [] (.ops 3 (.split 81 (.ops 4 (.split 85 (.skips 3 (hO 3)) (hO 6))) (.skips 8 (hO 2))))) (hS (hR 13) (hS (hJ (2722258932832206507250538056460739280896, [(130, tB)]) (.region [0, 1, 2, 3, 4, 5, 6, 7, 8, 9, 10, 11, 12, 13, 15, 16, 14, 17, 18, 19, 20, 21, 22, 23, 24, 25, 26, 27, 28, 29] (.ops 3 (.split 103 (.ops 7 (.split 110 (.skips 8 (.ops 2 (.skips 3 (.ops 2 (.skips 3 (hO 2)))))) (.ops 10 (.split 120 (.skips 3 (.ops 2 (.skips 3 (hO 2)))) (.ops 5 (.split 125 (.skips 3 (hO 2)) (hO 5))))))) (.skips 26 (hO 1))))) (hC (hS (hR 1) hL) hL)) (hJ (356809200917554602756863785365514329949995008, [(147, tB)]) (.region [] (.ops 3 (.split 133 (.ops 4 (.split 137 (.skips 3 (.ops 2 (.skips 3 (hO 2)))) (.ops 5 (.split 142 (.skips 3 (hO 2)) (hO 5))))) (.skips 13 (hO 1))))) (hC (hS (hR 1) hL) hL)))))))))) (hR 3)))))) (hS (hR 1) hL)))))
theorem F8_calls {a0 : (Int × Sl × Sl × Sl × Unit)} {K : Bool → World → Prop} {w : World} (h : F8 a0 K w) : callT Tryz.prog 8 #[(.agg (Cells.vals c26 a0).toArray)] (.one (.one .bool)) K w := tied tabOk Tryz.func8 h8 [(.agg (Cells.vals c26 a0).toArray)] h
noncomputable def F11 (a0 : (Int × Sl × Sl × Sl × Unit)) (K : (Option Addr × Bool × Unit) → World → Prop) : World → Prop :=
 newO (.cells #[(.int .i64 a0.1), (.slice a0.2.1.a a0.2.1.len a0.2.1.cap), (.slice a0.2.2.1.a a0.2.2.1.len a0.2.2.1.cap), (.slice a0.2.2.2.1.a a0.2.2.2.1.len a0.2.2.2.1.cap)] 26) fun b1 =>
 callT Tryz.prog 33 #[] (.one (.one .bool)) fun (x2 : Bool) =>
 sif (!x2) (
 K (none, false, ())) (
 join (S := Bool × Unit) (fun J3 =>
 ld (.int .i64) (at0 b1) fun (x5 : Int) =>
 sif (decide (x5 < (1 : Int))) (
 J3 (true, ())) (
 ld (.int .i64) (at0 b1) fun (x6 : Int) =>
 sif (decide (x6 > (4 : Int))) (
 J3 (true, ())) (
 ld (.sl) (⟨b1, 1, none⟩ : Addr) fun (x7 : Sl) =>
 J3 ((decide (((x7.len : Nat) : Int) > (65536 : Int))), ())))) fun (s4 : Bool × Unit) =>
 sif s4.1 (
 K (none, true, ())) (
 drew <|
 ld (.int .i64) (at0 b1) fun (x8 : Int) =>
 ld (.sl) (⟨b1, 1, none⟩ : Addr) fun (x9 : Sl) =>
 rawT Tryz.prog (.one (.one .sl)) (Builtin.append_ #[22, 22] 22 #[(.slice none 0 0), (.slice x9.a x9.len x9.cap)]) fun (x10 : Sl) =>
 keep (fun w => w.cell? (at0 b1) = some (Cell.val (.int .i64) x8)) <|
 callT Tryz.prog 23 #[(.int .i64 x8), (.slice x10.a x10.len x10.cap), (.int .i64 (65536 : Int))] (.tup [(.one .ptr), (.one (.int .i64))]) fun (x11 : (Option Addr × Int × Unit)) =>
 join (S := Bool × Unit) (fun J12 =>
 sif (Option.isNone x11.1) (
 J12 (true, ())) (
 J12 ((x11.2.1 != (0 : Int)), ()))) fun (s13 : Bool × Unit) =>
 sif s13.1 (
 K (none, false, ())) (
 join (S := Unit) (fun J14 =>
 sloop (S := Int × Unit) (fun (s16 : Int × Unit) again17 =>
 ld (.sl) (⟨b1, 2, none⟩ : Addr) fun (x18 : Sl) =>
 sif (decide (s16.1 < ((x18.len : Nat) : Int))) (
 ld (.sl) (⟨b1, 2, none⟩ : Addr) fun (x19 : Sl) =>
 ix x19.a x19.len s16.1 fun p20 =>
 ld (.sl) (p20.add (scaled (Int.toNat s16.1) 1)) fun (x21 : Sl) =>
 callT Tryz.prog 35 #[(.slice x21.a x21.len x21.cap)] (.one (.one .sl)) fun (x22 : Sl) =>
 callT Tryz.prog 34 #[(.pointer x11.1), (.slice x22.a x22.len x22.cap)] (.one (.one (.int .i64))) fun (x23 : Int) =>
 again17 ((IntKind.wrap .i64 (s16.1 + (1 : Int))), ())) (
 J14 ())) ((0 : Int), ())) fun (s15 : Unit) =>
 K (x11.1, true, ()))))
noncomputable def h11 : Hint := (hS (hR 3) (hS (hS (hR 2) (hC (hS (hR 2) hL) hL)) (hS (hJ (8388096, [(22, tB)]) (.region [] (.ops 4 (.split 12 (.skips 3 (.ops 2 (.skips 4 (hO 1)))) (.ops 5 (.split 17 (.skips 4 (hO 1)) (hO 5)))))) (hC (hS (hR 2) hL) hL)) (hS (.region [0, 1, 2, 3, 4, 5, 6, 7, 8, 9, 10] (hO 11)) (hS (hJ (270582939648, [(37, tB)]) (.region [] (.ops 3 (.split 34 (.skips 2 (hO 1)) (hO 3)))) (hC (hS (hR 2) hL) hL)) (hJ (9006924376834112, []) (hS (hR 1) (.block (.loop 9006924376834112 [(6, tI)] (hS (hS (hR 5) (hC hL hL)) (hS (.block (hR 8)) (hR 3)))))) (hS (hR 3) hL)))))))
theorem F11_calls {a0 : (Int × Sl × Sl × Sl × Unit)} {K : (Option Addr × Bool × Unit) → World → Prop} {w : World} (h : F11 a0 K w) : callT Tryz.prog 11 #[(.agg (Cells.vals c26 a0).toArray)] (.tup [(.one .ptr), (.one .bool)]) K w := tied tabOk Tryz.func11 h11 [(.agg (Cells.vals c26 a0).toArray)] h
noncomputable def F13 (a0 : Option Addr) (a1 : Int) (K : ((Int × Int × Int × Int × Unit) × Sl × Bool × Unit) → World → Prop) : World → Prop :=
 newO (.cells #[(.int .i64 (0 : Int)), (.int .i64 (0 : Int)), (.int .i64 (0 : Int)), (.int .i64 (0 : Int))] 36) fun b1 =>
 callT Tryz.prog 20 #[(.pointer a0), (.int .i64 a1)] (.one (.one (.int .i64))) fun (x2 : Int) =>
 callT Tryz.prog 41 #[(.pointer a0), (.int .i64 x2)] (.tup [(.agg c36), (.one (.int .i64))]) fun (x3 : ((Int × Int × Int × Int × Unit) × Int × Unit)) =>
 newO (.cells #[(.int .i64 (0 : Int)), (.int .i64 (0 : Int)), (.int .i64 (0 : Int)), (.int .i64 (0 : Int))] 36) fun b4 =>
 aggSt (at0 b4) (.agg (Cells.vals c36 x3.1).toArray) 4 <|
 join (S := Bool × Unit) (fun J5 =>
 drew <|
 sif (x3.2.1 != (0 : Int)) (
 J5 (true, ())) (
 ld (.int .i64) (at0 b4) fun (x7 : Int) =>
 sif (decide (x7 < (0 : Int))) (
 J5 (true, ())) (
 ld (.int .i64) (⟨b4, 1, none⟩ : Addr) fun (x8 : Int) =>
 ld (.int .i64) (at0 b4) fun (x9 : Int) =>
 sif (decide (x8 < x9)) (
 J5 (true, ())) (
 ld (.int .i64) (⟨b4, 2, none⟩ : Addr) fun (x10 : Int) =>
 ld (.int .i64) (⟨b4, 1, none⟩ : Addr) fun (x11 : Int) =>
 sif (decide (x10 < x11)) (
 J5 (true, ())) (
 ld (.int .i64) (⟨b4, 2, none⟩ : Addr) fun (x12 : Int) =>
 callT Tryz.prog 37 #[(.pointer a0)] (.one (.one (.int .i64))) fun (x13 : Int) =>
 keep (fun w => w.cell? (⟨b4, 2, none⟩ : Addr) = some (Cell.val (.int .i64) x12)) <|
 J5 ((decide (x12 > x13)), ())))))) fun (s6 : Bool × Unit) =>
 sif s6.1 (
 lds c36 (at0 b4) fun (x14 : (Int × Int × Int × Int × Unit)) =>
 aggSt (at0 b1) (.agg (Cells.vals c36 x14).toArray) 4 <|
 lds c36 (at0 b1) fun (x15 : (Int × Int × Int × Int × Unit)) =>
 K (x15, ⟨none, 0, 0⟩, false, ())) (
 ld (.int .i64) (at0 b4) fun (x16 : Int) =>
 ld (.int .i64) (⟨b4, 1, none⟩ : Addr) fun (x17 : Int) =>
 callT Tryz.prog 25 #[(.pointer a0), (.int .i64 x16), (.int .i64 x17)] (.one (.one .sl)) fun (x18 : Sl) =>
 drew <|
 lds c36 (at0 b4) fun (x19 : (Int × Int × Int × Int × Unit)) =>
 ld (.int .i64) (⟨b4, 1, none⟩ : Addr) fun (x20 : Int) =>
 ld (.int .i64) (at0 b4) fun (x21 : Int) =>
 aggSt (at0 b1) (.agg (Cells.vals c36 x19).toArray) 4 <|
 keep (fun w => w.cell? (at0 b4) = some (Cell.val (.int .i64) x21)) <|
 keep (fun w => w.cell? (⟨b4, 1, none⟩ : Addr) = some (Cell.val (.int .i64) x20)) <|
 lds c36 (at0 b1) fun (x22 : (Int × Int × Int × Int × Unit)) =>
 K (x22, x18, (((x18.len : Nat) : Int) == (IntKind.wrap .i64 (x20 - x21))), ()))
noncomputable def h13 : Hint := (hS (hR 3) (hS (hR 11) (hS (hJ (70368743915520, [(45, tB)]) (.region [0, 1, 2, 3, 4, 5, 6, 7, 8, 9, 10, 11, 12, 13, 14, 15, 16, 17, 18, 19, 20, 21, 22, 23, 24, 25, 26, 27] (.ops 3 (.split 20 (.skips 3 (.ops 2 (.skips 5 (.ops 2 (.skips 5 (.ops 2 (.skips 5 (hO 1)))))))) (.ops 5 (.split 25 (.skips 5 (.ops 2 (.skips 5 (.ops 2 (.skips 5 (hO 1)))))) (.ops 7 (.split 32 (.skips 5 (.ops 2 (.skips 5 (hO 1)))) (.ops 7 (.split 39 (.skips 5 (hO 1)) (hO 6)))))))))) (hC (hS (hR 4) hL) hL)) (hS (hR 7) (hS (.region [0, 1, 2, 3, 4, 5, 6, 7, 8, 9, 10, 11, 12] (hO 13)) hL)))))
theorem F13_calls {a0 : Option Addr} {a1 : Int} {K : ((Int × Int × Int × Int × Unit) × Sl × Bool × Unit) → World → Prop} {w : World} (h : F13 a0 a1 K w) : callT Tryz.prog 13 #[(.pointer a0), (.int .i64 a1)] (.tup [(.agg c36), (.one .sl), (.one .bool)]) K w := tied tabOk Tryz.func13 h13 [(.pointer a0), (.int .i64 a1)] h
noncomputable def F27 (a0 : Option Addr) (a1 : Int) (a2 : Int) (a3 : (Int × Int × Int × Int × Int × Int × Bool × Unit)) (K : ((Int × Int × Int × Unit) × Int × Unit) → World → Prop) : World → Prop :=
 newO (.cells #[(.int .i64 a3.1), (.int .i64 a3.2.1), (.int .i64 a3.2.2.1), (.int .i64 a3.2.2.2.1), (.int .i64 a3.2.2.2.2.1), (.int .i64 a3.2.2.2.2.2.1), (.bool a3.2.2.2.2.2.2.1)] 33) fun b1 =>
 newO (.cells #[(.int .i64 (0 : Int)), (.int .i64 (0 : Int)), (.int .i64 (0 : Int))] 43) fun b2 =>
 ld (.int .i64) (at0 b1) fun (x3 : Int) =>
 sif (x3 == (4 : Int)) (
 lds c31 (⟨b1, 3, none⟩ : Addr) fun (x4 : (Int × Int × Int × Unit)) =>
 ld (.bool) (⟨b1, 6, none⟩ : Addr) fun (x5 : Bool) =>
 callT Tryz.prog 16 #[(.pointer a0), (.int .i64 a1), (.agg (Cells.vals c31 x4).toArray), (.bool x5)] (.tup [(.agg c43), (.one (.int .i64))]) fun (x6 : ((Int × Int × Int × Unit) × Int × Unit)) =>
 aggSt (at0 b2) (.agg (Cells.vals c43 x6.1).toArray) 3 <|
 lds c43 (at0 b2) fun (x7 : (Int × Int × Int × Unit)) =>
 K (x7, x6.2.1, ())) (
 sif (x3 == (5 : Int)) (
 lds c31 (⟨b1, 3, none⟩ : Addr) fun (x8 : (Int × Int × Int × Unit)) =>
 callT Tryz.prog 22 #[(.pointer a0), (.int .i64 a1), (.int .i64 a2), (.agg (Cells.vals c31 x8).toArray)] (.tup [(.agg c43), (.one (.int .i64))]) fun (x9 : ((Int × Int × Int × Unit) × Int × Unit)) =>
 aggSt (at0 b2) (.agg (Cells.vals c43 x9.1).toArray) 3 <|
 lds c43 (at0 b2) fun (x10 : (Int × Int × Int × Unit)) =>
 K (x10, x9.2.1, ())) (
 sif (x3 == (6 : Int)) (
 lds c31 (⟨b1, 3, none⟩ : Addr) fun (x11 : (Int × Int × Int × Unit)) =>
 ld (.bool) (⟨b1, 6, none⟩ : Addr) fun (x12 : Bool) =>
 callT Tryz.prog 59 #[(.pointer a0), (.int .i64 a1), (.agg (Cells.vals c31 x11).toArray), (.bool x12)] (.tup [(.agg c43), (.one (.int .i64))]) fun (x13 : ((Int × Int × Int × Unit) × Int × Unit)) =>
 aggSt (at0 b2) (.agg (Cells.vals c43 x13.1).toArray) 3 <|
 lds c43 (at0 b2) fun (x14 : (Int × Int × Int × Unit)) =>
 K (x14, x13.2.1, ())) (
 lds c31 (⟨b1, 3, none⟩ : Addr) fun (x15 : (Int × Int × Int × Unit)) =>
 callT Tryz.prog 24 #[(.pointer a0), (.int .i64 a1), (.agg (Cells.vals c31 x15).toArray)] (.tup [(.agg c43), (.one (.int .i64))]) fun (x16 : ((Int × Int × Int × Unit) × Int × Unit)) =>
 aggSt (at0 b2) (.agg (Cells.vals c43 x16.1).toArray) 3 <|
 lds c43 (at0 b2) fun (x17 : (Int × Int × Int × Unit)) =>
 K (x17, x16.2.1, ()))))
noncomputable def h27 : Hint := (hS (hR 3) (hS (hS (hR 2) (.block (hS (hR 2) (hC (hS (hR 11) hL) (hS (hR 2) (hC (hS (hR 10) hL) (hS (hR 2) (hC (hS (hR 11) hL) hL)))))))) (hS (hR 9) hL)))
theorem F27_calls {a0 : Option Addr} {a1 : Int} {a2 : Int} {a3 : (Int × Int × Int × Int × Int × Int × Bool × Unit)} {K : ((Int × Int × Int × Unit) × Int × Unit) → World → Prop} {w : World} (h : F27 a0 a1 a2 a3 K w) : callT Tryz.prog 27 #[(.pointer a0), (.int .i64 a1), (.int .i64 a2), (.agg (Cells.vals c33 a3).toArray)] (.tup [(.agg c43), (.one (.int .i64))]) K w := tied tabOk Tryz.func27 h27 [(.pointer a0), (.int .i64 a1), (.int .i64 a2), (.agg (Cells.vals c33 a3).toArray)] h
noncomputable def F28 (a0 : Option Addr) (a1 : Int) (a2 : Bool) (K : Bool → World → Prop) : World → Prop :=
 join (S := Bool × Unit) (fun J1 =>
 sif (decide (a1 < (0 : Int))) (
 J1 (true, ())) (
 callT Tryz.prog 37 #[(.pointer a0)] (.one (.one (.int .i64))) fun (x3 : Int) =>
 J1 ((decide (a1 > x3)), ()))) fun (s2 : Bool × Unit) =>
 sif s2.1 (
 K false) (
 callT Tryz.prog 13 #[(.pointer a0), (.int .i64 a1)] (.tup [(.agg c36), (.one .sl), (.one .bool)]) fun (x4 : ((Int × Int × Int × Int × Unit) × Sl × Bool × Unit)) =>
 newO (.cells #[(.int .i64 (0 : Int)), (.int .i64 (0 : Int)), (.int .i64 (0 : Int)), (.int .i64 (0 : Int))] 36) fun b5 =>
 aggSt (at0 b5) (.agg (Cells.vals c36 x4.1).toArray) 4 <|
 join (S := Bool × Unit) (fun J6 =>
 sif (!x4.2.2.1) (
 J6 (true, ())) (
 ld (.int .i64) (at0 b5) fun (x8 : Int) =>
 sif (decide (a1 < x8)) (
 J6 (true, ())) (
 ld (.int .i64) (⟨b5, 1, none⟩ : Addr) fun (x9 : Int) =>
 sif (decide (a1 > x9)) (
 J6 (true, ())) (
 ld (.int .i64) (at0 b5) fun (x10 : Int) =>
 callT Tryz.prog 60 #[(.slice x4.2.1.a x4.2.1.len x4.2.1.cap), (.int .i64 (IntKind.wrap .i64 (a1 - x10)))] (.one (.one .bool)) fun (x11 : Bool) =>
 J6 ((!x11), ()))))) fun (s7 : Bool × Unit) =>
 sif s7.1 (
 K false) (
 sif a2 (
 K true) (
 ld (.int .i64) (⟨b5, 1, none⟩ : Addr) fun (x12 : Int) =>
 sif (decide (a1 < x12)) (
 callT Tryz.prog 20 #[(.pointer a0), (.int .i64 a1)] (.one (.one (.int .i64))) fun (x13 : Int) =>
 callT Tryz.prog 19 #[(.pointer a0)] (.one (.one (.int .i64))) fun (x14 : Int) =>
 K (decide (x13 < x14))) (
 ld (.int .i64) (at0 b5) fun (x15 : Int) =>
 ld (.int .i64) (⟨b5, 1, none⟩ : Addr) fun (x16 : Int) =>
 sif (x15 == x16) (
 callT Tryz.prog 20 #[(.pointer a0), (.int .i64 a1)] (.one (.one (.int .i64))) fun (x17 : Int) =>
 callT Tryz.prog 19 #[(.pointer a0)] (.one (.one (.int .i64))) fun (x18 : Int) =>
 K (decide (x17 < x18))) (
 K false)))))
noncomputable def h28 : Hint := (hS (hR 1) (hS (hJ (261120, [(17, tB)]) (.region [] (.ops 3 (.split 12 (.skips 4 (hO 1)) (hO 5)))) (hC (hS (hR 1) hL) hL)) (hS (hR 11) (hS (hJ (281474943156224, [(47, tB)]) (.region [] (.ops 3 (.split 27 (.skips 4 (.ops 2 (.skips 4 (.ops 2 (.skips 7 (hO 1)))))) (.ops 6 (.split 33 (.skips 4 (.ops 2 (.skips 7 (hO 1)))) (.ops 6 (.split 39 (.skips 7 (hO 1)) (hO 8)))))))) (hC (hS (hR 1) hL) hL)) (hS (.region [] (.ops 2 (.split 49 (.skips 19 (hO 2)) (.ops 5 (.split 54 (.skips 5 (hO 11)) (.ops 7 (.split 61 (hO 9) (.skips 6 (hO 3))))))))) hL)))))
theorem F28_calls {a0 : Option Addr} {a1 : Int} {a2 : Bool} {K : Bool → World → Prop} {w : World} (h : F28 a0 a1 a2 K w) : callT Tryz.prog 28 #[(.pointer a0), (.int .i64 a1), (.bool a2)] (.one (.one .bool)) K w := tied tabOk Tryz.func28 h28 [(.pointer a0), (.int .i64 a1), (.bool a2)] h
noncomputable def F33  (K : Bool → World → Prop) : World → Prop :=
 newO (.cells #[(.int .u8 (97 : Int)), (.int .u8 (98 : Int)), (.int .u8 (99 : Int))] 5) fun b1 =>
 callT Tryz.prog 23 #[(.int .i64 (1 : Int)), (.slice (some (at0 b1)) 3 3), (.int .i64 (9 : Int))] (.tup [(.one .ptr), (.one (.int .i64))]) fun (x2 : (Option Addr × Int × Unit)) =>
 join (S := Bool × Unit) (fun J3 =>
 sif (Option.isNone x2.1) (
 J3 (true, ())) (
 J3 ((x2.2.1 != (0 : Int)), ()))) fun (s4 : Bool × Unit) =>
 sif s4.1 (
 K false) (
 callT Tryz.prog 16 #[(.pointer x2.1), (.int .i64 (0 : Int)), (.agg #[(.int .i64 (2 : Int)), (.int .i64 (0 : Int)), (.int .i64 (0 : Int))]), (.bool false)] (.tup [(.agg c43), (.one (.int .i64))]) fun (x5 : ((Int × Int × Int × Unit) × Int × Unit)) =>
 newO (.cells #[(.int .i64 (0 : Int)), (.int .i64 (0 : Int)), (.int .i64 (0 : Int))] 43) fun b6 =>
 aggSt (at0 b6) (.agg (Cells.vals c43 x5.1).toArray) 3 <|
 sif (x5.2.1 == (0 : Int)) (
 ld (.int .i64) (at0 b6) fun (x7 : Int) =>
 K (x7 == (1 : Int))) (
 K false))
noncomputable def h33 : Hint := (hS (hR 1) (hS (hR 7) (hS (hJ (64512, [(15, tB)]) (.region [] (.ops 3 (.split 12 (.skips 2 (hO 1)) (hO 3)))) (hC (hS (hR 1) hL) hL)) (hS (hR 9) (hS (.region [] (.ops 3 (.split 24 (hO 5) (.skips 3 (hO 2))))) hL)))))
theorem F33_calls {K : Bool → World → Prop} {w : World} (h : F33  K w) : callT Tryz.prog 33 #[] (.one (.one .bool)) K w := tied tabOk Tryz.func33 h33 [] h
noncomputable def F35 (a0 : Sl) (K : Sl → World → Prop) : World → Prop :=
 join (S := Sl × Unit) (fun J1 =>
 sloop (S := Sl × Int × Unit) (fun (s3 : Sl × Int × Unit) again4 =>
 sif (decide (s3.2.1 < ((a0.len : Nat) : Int))) (
 drew <|
 ix a0.a a0.len s3.2.1 fun p5 =>
 ld (.int .i64) (p5.add (scaled (Int.toNat s3.2.1) 3)) fun (x6 : Int) =>
 ix a0.a a0.len s3.2.1 fun p7 =>
 ld (.int .i64) ((p7.add (scaled (Int.toNat s3.2.1) 3)).add 1) fun (x8 : Int) =>
 ix a0.a a0.len s3.2.1 fun p9 =>
 ld (.sl) ((p9.add (scaled (Int.toNat s3.2.1) 3)).add 2) fun (x10 : Sl) =>
 rawT Tryz.prog (.one (.one .sl)) (Builtin.append_ #[37, 37] 37 #[(.slice none 0 0), (.slice x10.a x10.len x10.cap)]) fun (x11 : Sl) =>
 keep (fun w => w.cell? ((p7.add (scaled (Int.toNat s3.2.1) 3)).add 1) = some (Cell.val (.int .i64) x8)) <|
 keep (fun w => w.cell? (p5.add (scaled (Int.toNat s3.2.1) 3)) = some (Cell.val (.int .i64) x6)) <|
 newO (.cells #[(.int .i64 x6), (.int .i64 x8), (.slice x11.a x11.len x11.cap)] 103) fun b12 =>
 rawT Tryz.prog (.one (.one .sl)) (Builtin.append_ #[69, 69] 69 #[(.slice s3.1.a s3.1.len s3.1.cap), (.slice (some (at0 b12)) 1 1)]) fun (x13 : Sl) =>
 again4 (x13, (IntKind.wrap .i64 (s3.2.1 + (1 : Int))), ())) (
 J1 (s3.1, ()))) (⟨none, 0, 0⟩, (0 : Int), ())) fun (s2 : Sl × Unit) =>
 K s2.1
noncomputable def h35 : Hint := (hS (hR 1) (hS (hR 1) (hJ (2147483640, [(3, tS)]) (hS (hR 1) (.block (.loop 2147483640 [(3, tS), (4, tI)] (hS (hS (hR 4) (hC hL hL)) (hS (.block (.region [0, 1, 2, 3, 4, 5, 6, 7, 8, 9, 10, 11, 12, 13, 14, 15, 16, 17, 18, 19, 20] (hO 21))) (hR 3)))))) (hS (hR 2) hL))))
theorem F35_calls {a0 : Sl} {K : Sl → World → Prop} {w : World} (h : F35 a0 K w) : callT Tryz.prog 35 #[(.slice a0.a a0.len a0.cap)] (.one (.one .sl)) K w := tied tabOk Tryz.func35 h35 [(.slice a0.a a0.len a0.cap)] h
end Go.Proofs.YtolhlldgnfbemaaGreat
namespace Go.Proofs.YtolhlldgnfbemaaGreat
open Go Go.Vx Cdc Trx Gly Clu Lns Obx Mot
theorem eEdits : ElemOk Tryz.prog 69 103 3 40 := ElemOk.of (z := .agg #[.int .i64 0, .int .i64 0, .slice none 0 0]) i69_ok i103_ok rfl rfl rfl (by decide)
section
variable {w w' : World}
theorem able_call {K : Bool → World → Prop} (hK : ∀ w', Ext w w' → K true w') : callT Tryz.prog 33 #[] (.one (.one .bool)) K w := by
 refine F33_calls ?_
 unfold F33
 refine (St.start w).newO fun b1 w1 S1 e1 => ?_
 have hB : By w1 ⟨some (at0 b1), 3, 3⟩ [97, 98, 99] := SlIn.of_box (S1.at_ 0 rfl) (n := 3) (sz := 1) rfl
 refine open_call (e := .u8) (lim := 9) hB (by decide) (by decide) fun p O M w2 tx hA _ e2 _ => ?_
 have hA : atoms (aOf .u8 M) = [97, 98, 99] := by rw [hA]; kernel_rfl
 have ta : TxA w2 p [97, 98, 99] := ⟨_, _, _, _, _, tx, hA⟩
 refine join_r (fun x W => x = (false, ()) ∧ w2 = W) (sif_false ⟨rfl, rfl⟩) ?_
 rintro _ _ ⟨rfl, rfl⟩
 refine sif_false (mchars_call (kind := 2) (count := 0) (arg := 0) (x := 0) ta fun w3 e3 => ?_)
 rw [able_is]
 refine ((S1.ext e2).ext e3).newO fun b6 w4 S4 e4 => S4.aggSt 0 rfl rfl rfl rfl fun w5 S5 _ => ?_
 exact sif_true (S5.ld (off := 0) 0 rfl (x := 1) rfl (hK w5 S5.upd))
theorem ix_fX {c : Cell} {cs : List Cell} {s : Sl} {xs : List (Cells.T cs)} {n : Int} {j : Nat} {K : Addr → c.T → World → Prop} (h : SlX w s cs.length (flat cs xs)) (h0 : 0 ≤ n) {x : Cells.T cs} {y : c.T} (hx : xs[n.toNat]? = some x) (hy : (Cells.vals cs x)[j]? = some (c.val y))
  (hK : ∀ p, (∀ w', Ext w w' → w'.cell? ((p.add (scaled (Int.toNat n) cs.length)).add j) = some (c.val y)) → K p y w) :
  ix s.a s.len n (fun p => ld c ((p.add (scaled (Int.toNat n) cs.length)).add j) (K p)) w := by
 have hlt := (List.getElem?_eq_some_iff.1 hx).1
 have hjl : j < cs.length := by
  have := (List.getElem?_eq_some_iff.1 hy).1
  rwa [vals_len] at this
 have hl := h.lenR (by omega)
 obtain ⟨t, h⟩ := h.in_of (by omega)
 refine h.ix h0 (by omega) (by omega) fun b off ha hv => ?_
 have hc : w.cell? (((⟨b, off, none⟩ : Addr).add (scaled (Int.toNat n) cs.length)).add j) = some (c.val y) := by
  rw [addr_add, addr_add]
  have := hv j (c.val y) (by rw [flat_get cs xs _ j x hx hjl]; exact hy)
  simpa [scaled_eq] using this
 exact ld_of (x := y) hc (hK _ fun w' x' => cell_ext hc x')
theorem ix_fX0 {c : Cell} {cs : List Cell} {s : Sl} {xs : List (Cells.T cs)} {n : Int} {K : Addr → c.T → World → Prop} (h : SlX w s cs.length (flat cs xs)) (h0 : 0 ≤ n) {x : Cells.T cs} {y : c.T} (hx : xs[n.toNat]? = some x) (hy : (Cells.vals cs x)[0]? = some (c.val y))
  (hK : ∀ p, (∀ w', Ext w w' → w'.cell? (p.add (scaled (Int.toNat n) cs.length)) = some (c.val y)) → K p y w) :
  ix s.a s.len n (fun p => ld c (p.add (scaled (Int.toNat n) cs.length)) (K p)) w := by
 have hlt := (List.getElem?_eq_some_iff.1 hx).1
 have hjl : 0 < cs.length := by
  have := (List.getElem?_eq_some_iff.1 hy).1
  rwa [vals_len] at this
 have hl := h.lenR (by omega)
 obtain ⟨t, h⟩ := h.in_of (by omega)
 refine h.ix h0 (by omega) (by omega) fun b off ha hv => ?_
 have hc : w.cell? ((⟨b, off, none⟩ : Addr).add (scaled (Int.toNat n) cs.length)) = some (c.val y) := by
  rw [addr_add]
  have := hv 0 (c.val y) (by rw [flat_get cs xs _ 0 x hx hjl]; exact hy)
  simpa [scaled_eq] using this
 exact ld_of (x := y) hc (hK _ fun w' x' => cell_ext hc x')
set_option maxHeartbeats 400000 in
theorem own_call {s : Sl} {es : List LEd} (h : EdX w s es) {K : Sl → World → Prop} (hK : ∀ r ys w', EdIn w' r 103 ys es → (∀ k, r.blk k → w.heap.size ≤ k) → (∀ (i : Nat) y, ys[i]? = some y → ∀ k, y.2.2.1.blk k → w.heap.size ≤ k) → Ext w w' → K r w') :
  callT Tryz.prog 35 #[.slice s.a s.len s.cap] (.one (.one .sl)) K w := by
 refine F35_calls ?_
 unfold F35
 obtain ⟨ys0, hs, hyl, hy0⟩ := h.ex
 have few := h.few
 have hsl : ys0.length = s.len := SlX.lenR (cs := c103) hs (by decide)
 refine join_r (fun x W => ∃ ys, SlOwn W w.heap.size x.1 103 3 (flat c103 ys) ∧ ys.length = es.length ∧ (∀ (i : Nat) y z, ys[i]? = some y → es[i]? = some z → y.1 = z.f ∧ y.2.1 = z.t ∧ SlOwn W w.heap.size y.2.2.1 3 1 (iv z.put) ∧ z.put.length ≤ 1048576) ∧ Ext w W) ?_ ?_
 ·refine sloop_r (fun x W => ∃ (i : Nat) (ys : List (Cells.T c103)), i ≤ es.length ∧ x.2 = ((i : Int), ()) ∧ SlOwn W w.heap.size x.1 103 3 (flat c103 ys) ∧ ys.length = i ∧ (∀ (j : Nat) y z, ys[j]? = some y → es[j]? = some z → y.1 = z.f ∧ y.2.1 = z.t ∧ SlOwn W w.heap.size y.2.2.1 3 1 (iv z.put) ∧ z.put.length ≤ 1048576) ∧ Ext w W) (fun x _ => ((es.length : Int) - x.2.1).toNat) ⟨0, [], Nat.zero_le _, rfl, SlOwn.nil _ _ _ _, rfl, fun j y z hy => by simp at hy, Ext.refl w⟩ ?_
  rintro ⟨r, _⟩ W ⟨i, ys, hi, rfl, hr, hl, hys, eW⟩
  dsimp only at hr ⊢
  have hrl : ys.length = r.len := SlOwn.lenR (cs := c103) hr (by decide)
  refine sif_r (fun hc => ?_) (fun hc => ?_)
  ·simp only [decide_eq_true_eq] at hc
   obtain ⟨y, hy⟩ : ∃ y, ys0[i]? = some y := ⟨_, List.getElem?_eq_getElem (by omega)⟩
   obtain ⟨z, hz⟩ : ∃ z, es[i]? = some z := ⟨_, List.getElem?_eq_getElem (by omega)⟩
   obtain ⟨y1, y2, y3, y4⟩ := hy0 i y z hy hz
   have ew : IntKind.wrap .i64 ((i : Int) + 1) = ((i + 1 : Nat) : Int) := by rw [wrap64 (by omega) (by omega)]; omega
   rw [ew]
   refine drew_r fun w2 e2 _ => ?_
   have x2 := eW.trans e2
   have hyn : ys0[((i : Int)).toNat]? = some y := by rw [Int.toNat_natCast]; exact hy
   have hs2 := hs.ext x2
   refine ix_fX0 (c := .int .i64) (cs := c103) (xs := ys0) (y := y.1) hs2 (Int.natCast_nonneg i) hyn rfl fun q1 k1 => ?_
   refine ix_fX (c := .int .i64) (cs := c103) (xs := ys0) (j := 1) (y := y.2.1) hs2 (Int.natCast_nonneg i) hyn rfl fun q2 k2 => ?_
   refine ix_fX (c := .sl) (cs := c103) (xs := ys0) (j := 2) (y := y.2.2.1) hs2 (Int.natCast_nonneg i) hyn rfl fun q3 k3 => ?_
   have hpl : z.put.length = y.2.2.1.len := by have := y3.len1; rwa [List.length_map] at this
   refine append_rx eInts eInts.ts_ (B := w.heap.size) (s := ⟨none, 0, 0⟩) (x := y.2.2.1) (vs := []) (us := iv z.put) (SlOwn.nil w2 w.heap.size 3 1) (y3.ext x2) (fun v hv => by obtain ⟨n, _, rfl⟩ := List.mem_map.1 hv; rfl) (by
    show (0 + y.2.2.1.len + (0 + y.2.2.1.len) / 4 + 512) * 8 ≤ 2 ^ 48
    omega) (by have := x2.size; omega) fun s3 w3 o3 l3 u3 b3 => ?_
   have e3 : Ext w2 w3 := (Ext.refl w2).step u3 fun k hk => by obtain ⟨_, hp, _⟩ := hk; cases hp
   have x3 := x2.trans e3
   rw [List.nil_append] at o3
   refine keep_r (k2 w3 e3) (keep_r (k1 w3 e3) (newO_r fun b12 w4 e4 n4 hb4 _ => ?_))
   have x4 := x3.trans e4
   have hbox : SlX w4 ⟨some (at0 b12), 1, 1⟩ 3 (flat c103 [(y.1, y.2.1, s3, ())]) := (SlIn.of_box n4 (n := 1) (sz := 3) rfl).x
   refine append_rx eEdits eEdits.ts_ (x := ⟨some (at0 b12), 1, 1⟩) (hr.ext ((e2.trans e3).trans e4)) hbox (fun v hv => by
    have hv : v ∈ [Value.int .i64 y.1, .int .i64 y.2.1, .slice s3.a s3.len s3.cap] := hv
    simp only [List.mem_cons, List.not_mem_nil, or_false] at hv
    rcases hv with rfl | rfl | rfl <;> rfl) (by
    show (r.len + 1 + (r.len + 1) / 4 + 512) * 40 ≤ 2 ^ 48
    omega) (by have := x4.size; omega) fun r' w5 o5 l5 u5 b5 => ?_
   have x5 : Ext w w5 := x4.step u5 fun k hk => hr.blk_ge hk
   have ef : flat c103 ys ++ flat c103 [(y.1, y.2.1, s3, ())] = flat c103 (ys ++ [(y.1, y.2.1, s3, ())]) := by simp [flat]
   rw [ef] at o5
   have ne : ∀ {sl : Sl} {v : List Int} {V : World}, SlOwn V w.heap.size sl 3 1 (iv v) → Ext V w4 → SlOwn w5 w.heap.size sl 3 1 (iv v) := fun ho e => (ho.ext e).ty (t := 3) u5 (fun k hk c fr hn => by
    obtain ⟨c', fr', hc'⟩ := (hr.ext ((e2.trans e3).trans e4)).in.blk_cells hk
    rw [hn] at hc'
    cases hc')
   refine ⟨⟨i + 1, ys ++ [(y.1, y.2.1, s3, ())], by omega, rfl, o5, by simp [hl], fun j y' z' hy' hz' => ?_, x5⟩, by (try dsimp only); omega⟩
   by_cases hj : j < ys.length
   ·rw [List.getElem?_append_left hj] at hy'
    obtain ⟨g1, g2, g3, g4⟩ := hys j y' z' hy' hz'
    exact ⟨g1, g2, ne g3 ((e2.trans e3).trans e4), g4⟩
   ·have hje : j = i := by
     have := (List.getElem?_eq_some_iff.1 hy').1
     simp at this; omega
    subst hje
    rw [← hl, List.getElem?_concat_length] at hy'
    cases hy'
    rw [hz] at hz'; cases hz'
    exact ⟨y1, y2, ne o3 e4, y4⟩
  ·simp only [decide_eq_false_iff_not] at hc
   obtain rfl : i = es.length := by omega
   exact ⟨ys, hr, hl, hys, eW⟩
 rintro ⟨r, _⟩ W ⟨ys, hr, hl, hys, eW⟩
 refine hK r ys W ⟨hr.in, hl, fun i y z hy hz => ?_⟩ (fun k hk => hr.blk_ge hk) (fun i y hy k hk => ?_) eW
 ·obtain ⟨g1, g2, g3, g4⟩ := hys i y z hy hz
  exact ⟨g1, g2, ⟨_, g3.in⟩, by omega⟩
 ·obtain ⟨z, hz⟩ : ∃ z, es[i]? = some z := ⟨_, List.getElem?_eq_getElem (by have := (List.getElem?_eq_some_iff.1 hy).1; omega)⟩
  exact (hys i y z hy hz).2.2.1.blk_ge hk
abbrev lkO (y : Cells.T c26) : Obj := .cells #[.int .i64 y.1, .slice y.2.1.a y.2.1.len y.2.1.cap, .slice y.2.2.1.a y.2.2.1.len y.2.2.1.cap, .slice y.2.2.2.1.a y.2.2.2.1.len y.2.2.2.1.cap] 26 (0, 0)
theorem EdX.ext {s : Sl} {es : List LEd} (h : EdX w s es) (e : Ext w w') : EdX w' s es := by
 obtain ⟨ys, h1, h2, h3⟩ := h.ex
 exact ⟨⟨ys, h1.ext e, h2, fun i y x hy hx => by obtain ⟨a, b, c, d⟩ := h3 i y x hy hx; exact ⟨a, b, c.ext e, d⟩⟩, h.few⟩
theorem refuse_put {e : Enc} {lim : Nat} {A : As} {es : List LEd} (h : refuseP e lim A es = 0) : putsz e es ≤ lim := by
 unfold refuseP at h
 split at h
 ·cases h
 split at h
 ·cases h
 rename_i hr
 split at h
 ·cases h
 split at h
 ·cases h
 have gl := gone_le (A := A) (es := es) (a := 0) (Int.le_refl _) (by simpa using hr)
 omega
theorem enc_num {c : Int} (h : 1 ≤ c ∧ c ≤ 4) : ∃ e : Enc, e.num = c := by
 rcases (by omega : c = 1 ∨ c = 2 ∨ c = 3 ∨ c = 4) with rfl | rfl | rfl | rfl
 ·exact ⟨.u8, rfl⟩
 ·exact ⟨.le, rfl⟩
 ·exact ⟨.be, rfl⟩
 ·exact ⟨.l1, rfl⟩
set_option maxHeartbeats 1000000 in
theorem ltext_call {y : Cells.T c26} {c : Int} {l : List UInt8} {L : List (List LEd)} {al : List LAsk} (h : LookX w y c l L al) {K : Option Addr × Bool × Unit → World → Prop} (hN : ∀ w', Ext w w' → K (none, true, ()) w')
  (hS : ∀ p A w', TxA w' p A → Ext w w' → K (some (at0 p), true, ()) w') :
  callT Tryz.prog 11 #[.agg (Cells.vals c26 y).toArray] (.tup [(.one .ptr), (.one .bool)]) K w := by
 refine F11_calls (a0 := y) ?_
 unfold F11
 have hbl : l.length = y.2.1.len := by have := h.bytes.len1; rwa [List.length_map] at this
 obtain ⟨ys, hys, hyl, hye⟩ := h.edits.ex
 have few := h.edits.few
 have hsl : ys.length = y.2.2.1.len := by have := hys.len1; rwa [List.length_map] at this
 refine (St.start w).newO fun b1 w1 S1 e1 => able_call fun w2 e2 => sif_false ?_
 have S2 := S1.ext e2
 have S2 : St (fun _ => False) w w2 [(b1, lkO y)] := S2
 refine join_r (fun x W => x = (decide (¬ (1 ≤ c ∧ c ≤ 4 ∧ l.length ≤ 65536)), ()) ∧ w2 = W) ?_ ?_
 ·refine S2.ld (off := 0) 0 rfl (x := c) (congrArg (fun (n : Int) => some (Value.int .i64 n)) h.e) (sif_r (fun hc => ⟨tupb ?_, rfl⟩) (fun hc => S2.ld (off := 0) 0 rfl (x := c) (congrArg (fun (n : Int) => some (Value.int .i64 n)) h.e) (sif_r (fun hc2 => ⟨tupb ?_, rfl⟩) (fun hc2 => S2.ld (off := 1) 0 rfl (x := y.2.1) rfl ⟨tupb ?_, rfl⟩))))
  all_goals simp only [decide_eq_true_eq, decide_eq_false_iff_not, true_iff, gt_iff_lt] at *
  all_goals omega
 rintro _ _ ⟨rfl, rfl⟩
 refine sif_r (fun hc => hN w2 S2.upd) (fun hc => ?_)
 have hc := Classical.byContradiction (fun hn => (of_decide_eq_false hc) hn)
 obtain ⟨e, hen⟩ := enc_num (c := c) ⟨hc.1, hc.2.1⟩
 refine S2.drew fun w3 S3 e3 _ => S3.ld (off := 0) 0 rfl (x := c) (congrArg (fun (n : Int) => some (Value.int .i64 n)) h.e) (S3.ld (off := 1) 0 rfl (x := y.2.1) rfl ?_)
 refine app_by (s := ⟨none, 0, 0⟩) (l := []) (m := l) (B := w.heap.size) (SlOwn.nil w3 w.heap.size 5 1) (h.bytes.ext S3.upd) (by
  show 0 + y.2.1.len + (0 + y.2.1.len) / 4 + 512 ≤ 2 ^ 48
  omega) S3.upd.size fun s4 w4 o4 l4 u4 b4 _ => ?_
 have e4 : Ext w3 w4 := (Ext.refl w3).step u4 fun k hk => by obtain ⟨_, hp, _⟩ := hk; cases hp
 have S4 := S3.ext e4
 rw [List.nil_append] at o4
 refine S4.keep (off := 0) 0 rfl (v := .int .i64 c) (congrArg (fun (n : Int) => some (Value.int .i64 n)) h.e) ?_
 rw [← hen]
 have hB4 : By w4 s4 l := o4.in
 refine open_call (e := e) (lim := 65536) hB4 hc.2.2 (Nat.le_refl _) fun p O M w5 tx hA _ e5 hnew => ?_
 have S5 := S4.ext e5
 refine join_r (fun x W => x = (false, ()) ∧ w5 = W) (sif_false ⟨rfl, rfl⟩) ?_
 rintro _ _ ⟨rfl, rfl⟩
 refine sif_false ?_
 have hb1 : b1 < w4.heap.size := lt_of_heap (S4.at_ 0 rfl)
 have hw4 : w.heap.size ≤ w4.heap.size := S4.upd.size
 refine join_r (fun _ W => ∃ O M na, Txt W p e 65536 na O M ∧ St (fun _ => False) w W [(b1, lkO y)]) ?_ (fun _ W ⟨O, M, na, t, S⟩ => hS p _ W ⟨_, _, _, _, _, t, rfl⟩ S.upd)
 refine sloop_r (fun x W => ∃ (i : Nat) (O : Nat → Prop) (M : Parts) (na : Nat), x = ((i : Int), ()) ∧ i ≤ L.length ∧ Txt W p e 65536 na O M ∧ na ≤ 65536 * i ∧ szs (aOf e M) ≤ 65536 ∧ (∀ k, O k → w4.heap.size ≤ k) ∧ St (fun _ => False) w W [(b1, lkO y)]) (fun x _ => ((L.length : Int) - x.1).toNat) ⟨0, O, M, 0, rfl, Nat.zero_le _, tx, Nat.zero_le _, ?_, hnew, S5⟩ ?_
 ·rw [hA, szs_all]; exact hc.2.2
 rintro _ W ⟨i, O, M, na, rfl, hi, t, hna, hsz, hO, SW⟩
 dsimp only
 refine SW.ld (off := 2) 0 rfl (x := y.2.2.1) rfl (sif_r (fun hc => ?_) (fun hc => ?_))
 ·simp only [decide_eq_true_eq] at hc
  have ew : IntKind.wrap .i64 ((i : Int) + 1) = ((i + 1 : Nat) : Int) := by rw [wrap64 (by omega) (by omega)]; omega
  rw [ew]
  obtain ⟨q, hq⟩ : ∃ q, ys[i]? = some q := ⟨_, List.getElem?_eq_getElem (by omega)⟩
  obtain ⟨es, hes⟩ : ∃ es, L[i]? = some es := ⟨_, List.getElem?_eq_getElem (by omega)⟩
  refine SW.ld (off := 2) 0 rfl (x := y.2.2.1) rfl (ix_ldX (c := .sl) (xs := ys) (hys.ext SW.upd) (Int.natCast_nonneg i) (x := q) (by rw [Int.toNat_natCast]; exact hq) fun p1 => ?_)
  refine own_call ((hye i q es hq hes).ext SW.upd) fun r zs w6 hE hr hz e6 => ?_
  have t6 := t.ext e6
  have S6 := SW.ext e6
  refine changeG_call t6 hE hsz (fun k hk hOk => ?_) (fun j z hj k hk hOk => ?_) (by omega) (fun cc w7 _ _ e7 => ⟨⟨i + 1, O, M, na, rfl, by omega, t6.ext e7, by omega, hsz, hO, S6.ext e7⟩, by omega⟩) fun h0 O' M' w7 t7 _ hs7 u7 _ o2 => ?_
  ·have := hr k hk; have := t.own k hOk; omega
  ·have := hz j z hj k hk; have := t.own k hOk; omega
  ·have hp := refuse_put h0
   refine ⟨⟨i + 1, O', M', _, rfl, by omega, t7, by omega, hs7, fun k hk => ?_, S6.fresh u7 (fun k hk => .inr (by have := hO k hk.1; omega)) (fun z hz hk => ?_)⟩, by omega⟩
   ·rcases o2 k hk with hh | hh
    ·exact hO k hh
    ·have := e6.size; have := SW.upd.size
     have h9 : w4.heap.size ≤ W.heap.size := by
      have := hO p t.op
      have := t.own p t.op
      omega
     omega
   ·rw [List.mem_singleton.1 hz] at hk
    have := hO _ hk.1
    dsimp only at this
    omega
 ·simp only [decide_eq_false_iff_not] at hc
  exact ⟨O, M, na, t, SW⟩
end
section
variable {w w' : World} {p : Nat} {A : List Int}
abbrev lnO (l : Ln) : Obj := .cells #[.int .i64 (l.from_ : Int), .int .i64 (l.to_ : Int), .int .i64 (l.next : Int), .int .i64 (l.kind : Int)] 36 (0, 0)
abbrev lnZ : Obj := .cells #[.int .i64 0, .int .i64 0, .int .i64 0, .int .i64 0] 36 (0, 0)
theorem lline_call (h : TxA w p A) {n : Int} {K : Cells.T c36 × Sl × Bool × Unit → World → Prop} (hK : ∀ s w', SlIn w' s 3 1 (iv (rowB A (ofI A n))) → Ext w w' → K (lnT (rowL A (ofI A n)), s, true, ()) w') :
  callT Tryz.prog 13 #[.pointer (some (at0 p)), .int .i64 n] (.tup [(.agg c36), (.one .sl), (.one .bool)]) K w := by
 refine F13_calls ?_
 unfold F13
 have hi := ofI_le A n
 have ok := row_ok hi
 have hA := h.len
 have ft := ok.ft; have tn := ok.tn; have nl := ok.nl
 generalize hI : ofI A n = i at *
 refine (St.start w).newO fun b1 w1 S1 e1 => (h.ext e1).of fun w2 e2 => ?_
 rw [hI]
 refine ((h.ext e1).ext e2).at_ hi fun w3 e3 => ?_
 refine ((S1.ext e2).ext e3).newO fun b4 w4 S4 e4 => S4.aggSt 0 rfl rfl rfl rfl fun w5 S5 u5 => ?_
 have S5 : St (fun _ => False) w w5 [(b4, lnO (rowL A i)), (b1, lnZ)] := S5
 refine join_r (fun y W => y = (false, ()) ∧ St (fun _ => False) w W [(b4, lnO (rowL A i)), (b1, lnZ)]) ?_ ?_
 ·refine S5.drew fun w6 S6 e6 _ => sif_false (S6.ld (off := 0) 0 rfl (x := ((rowL A i).from_ : Int)) rfl (sif_r (fun hc => by simp only [decide_eq_true_eq] at hc; omega) (fun _ => ?_)))
  refine S6.ld (off := 1) 0 rfl (x := ((rowL A i).to_ : Int)) rfl (S6.ld (off := 0) 0 rfl (x := ((rowL A i).from_ : Int)) rfl (sif_r (fun hc => by simp only [decide_eq_true_eq] at hc; omega) (fun _ => ?_)))
  refine S6.ld (off := 2) 0 rfl (x := ((rowL A i).next : Int)) rfl (S6.ld (off := 1) 0 rfl (x := ((rowL A i).to_ : Int)) rfl (sif_r (fun hc => by simp only [decide_eq_true_eq] at hc; omega) (fun _ => ?_)))
  refine S6.ld (off := 2) 0 rfl (x := ((rowL A i).next : Int)) rfl ((h.ext S6.upd).tlen fun w7 e7 => (S6.ext e7).keep (off := 2) 0 rfl (v := .int .i64 ((rowL A i).next : Int)) rfl ⟨tupb ?_, S6.ext e7⟩)
  simp only [decide_eq_true_eq, gt_iff_lt, Bool.false_eq_true, iff_false]; omega
 rintro _ W ⟨rfl, SW⟩
 refine sif_false (SW.ld (off := 0) 0 rfl (x := ((rowL A i).from_ : Int)) rfl (SW.ld (off := 1) 0 rfl (x := ((rowL A i).to_ : Int)) rfl ((h.ext SW.upd).atoms fun s w6 o6 e6 => ?_)))
 rw [sub_row] at o6
 have S6 := SW.ext e6
 have hsl : s.len = (rowL A i).to_ - (rowL A i).from_ := by
  have := o6.len1
  rw [List.length_map, rowB_length hi] at this
  exact this.symm
 refine S6.drew fun w7 S7 e7 _ => S7.lds 0 (lnT (rowL A i)) rfl (S7.ld (off := 1) 0 rfl (x := ((rowL A i).to_ : Int)) rfl (S7.ld (off := 0) 0 rfl (x := ((rowL A i).from_ : Int)) rfl (S7.aggSt 1 rfl rfl rfl rfl fun w8 S8 u8 => ?_)))
 refine S8.keep (off := 0) 0 rfl (v := .int .i64 ((rowL A i).from_ : Int)) rfl (S8.keep (off := 1) 0 rfl (v := .int .i64 ((rowL A i).to_ : Int)) rfl (S8.lds 1 (lnT (rowL A i)) rfl ?_))
 have e9 : (((s.len : Nat) : Int) == IntKind.wrap .i64 (((rowL A i).to_ : Int) - ((rowL A i).from_ : Int))) = true := by
  rw [wrap64 (by omega) (by omega), beq_iff_eq]; omega
 rw [e9]
 exact hK s w8 ((o6.ext e7).box (S7.at_ 1 rfl) (by decide) u8).in S8.upd
theorem lhome_call (h : TxA w p A) {n : Nat} {past : Bool} (hs : Stand A n past) {K : Bool → World → Prop} (hK : ∀ w', Ext w w' → K true w') :
  callT Tryz.prog 28 #[.pointer (some (at0 p)), .int .i64 (n : Int), .bool past] (.one (.one .bool)) K w := by
 refine F28_calls ?_
 unfold F28
 obtain ⟨h1, h2, h3, h4, h5, h6⟩ := stand_home hs
 have hof : ofI A (n : Int) = nb A n := by unfold ofI; rw [inT_of h4]
 have hA := h.len
 generalize hi : nb A n = i at *
 have ok := row_ok h1
 have tn := ok.tn; have nl := ok.nl; have ft := ok.ft
 refine join_r (fun y W => y = (false, ()) ∧ Ext w W) ?_ ?_
 ·refine sif_r (fun hc => by simp only [decide_eq_true_eq] at hc; omega) (fun _ => h.tlen fun w1 e1 => ⟨tupb ?_, e1⟩)
  simp only [decide_eq_true_eq, gt_iff_lt, Bool.false_eq_true, iff_false]; omega
 rintro _ w1 ⟨rfl, e1⟩
 refine sif_false (lline_call (h.ext e1) fun s w2 o2 e2 => ?_)
 rw [hof] at o2
 rw [hof]
 refine ((St.start w).ext (e1.trans e2)).newO fun b5 w3 S3 e3 => S3.aggSt 0 rfl rfl rfl rfl fun w4 S4 u4 => ?_
 have S4 : St (fun _ => False) w w4 [(b5, lnO (rowL A i))] := S4
 have o4 := (o2.ext e3).box (S3.at_ 0 rfl) (by decide) u4
 refine join_r (fun y W => y = (false, ()) ∧ St (fun _ => False) w W [(b5, lnO (rowL A i))]) ?_ ?_
 ·refine sif_false (S4.ld (off := 0) 0 rfl (x := ((rowL A i).from_ : Int)) rfl (sif_r (fun hc => by simp only [decide_eq_true_eq] at hc; omega) (fun _ => ?_)))
  refine S4.ld (off := 1) 0 rfl (x := ((rowL A i).to_ : Int)) rfl (sif_r (fun hc => by simp only [decide_eq_true_eq] at hc; omega) (fun _ => ?_))
  refine S4.ld (off := 0) 0 rfl (x := ((rowL A i).from_ : Int)) rfl ?_
  have ew : IntKind.wrap .i64 ((n : Int) - ((rowL A i).from_ : Int)) = ((n - (rowL A i).from_ : Nat) : Int) := by rw [wrap64 (by omega) (by omega)]; omega
  rw [ew]
  refine isbreak_call o4 (by rw [rowB_length h1]; omega) fun w5 e5 => ⟨?_, S4.ext e5⟩
  rw [Int.toNat_natCast, h5, decide_eq_true ⟨by omega, by rw [rowB_length h1]; omega⟩]; rfl
 rintro _ W ⟨rfl, SW⟩
 refine sif_false (sif_r (fun hp => hK W SW.upd) (fun hp => ?_))
 obtain ⟨g1, g2⟩ := h6 hp
 have fin : ∀ {V : World}, Ext w V → callT Tryz.prog 20 #[.pointer (some (at0 p)), .int .i64 (n : Int)] (.one (.one (.int .i64))) (fun x => callT Tryz.prog 19 #[.pointer (some (at0 p))] (.one (.one (.int .i64))) fun y => K (decide (x < y))) V := fun x => (h.ext x).of fun w6 e6 => (h.ext (x.trans e6)).count fun w7 e7 => by
  have hlt : ((ofI A (n : Int) : Nat) : Int) < (lnN A : Int) := by rw [hof]; omega
  rw [decide_eq_true hlt]
  exact hK w7 ((x.trans e6).trans e7)
 refine SW.ld (off := 1) 0 rfl (x := ((rowL A i).to_ : Int)) rfl (sif_r (fun hc => fin SW.upd) (fun hc => ?_))
 simp only [decide_eq_false_iff_not] at hc
 refine SW.ld (off := 0) 0 rfl (x := ((rowL A i).from_ : Int)) rfl (SW.ld (off := 1) 0 rfl (x := ((rowL A i).to_ : Int)) rfl (sif_r (fun _ => fin SW.upd) (fun hc2 => ?_)))
 simp only [beq_eq_false_iff_ne, ne_eq] at hc2
 omega
noncomputable def movedP (A : List Int) (a : LAsk) (x g count : Int) : Ld := if a.kind = 4 then charsP A x a.mkd count a.arg a.past else if a.kind = 5 then rowsP A x g a.mkd count else if a.kind = 6 then wordsM A x a.mkd count a.past else parasM A x a.mkd count
abbrev askO (a : LAsk) : Obj := .cells #[.int .i64 a.kind, .int .i64 a.at_, .int .i64 a.b, .int .i64 a.mkd, .int .i64 a.count, .int .i64 a.arg, .bool a.past] 33 (0, 0)
theorem ask_move {W : World} {b : Nat} {a : LAsk} {K : Cells.T c31 → World → Prop} (hb : W.heap[b]? = some (askO a)) (hK : K (mvM a.mkd a.count a.arg) W) : lds c31 ⟨b, 3, none⟩ K W :=
 lds_r (x := mvM a.mkd a.count a.arg) hb (fun j v hv => by
  match j with
  | 0 => exact hv
  | 1 => exact hv
  | 2 => exact hv
  | j + 3 => cases hv) hK
theorem lmoved_call (h : TxA w p A) {a : LAsk} {x g : Int} {K : LdT → World → Prop} (hK : ∀ w', Ext w w' → K (ldT (movedP A a x g a.count)) w') :
  callT Tryz.prog 27 #[.pointer (some (at0 p)), .int .i64 x, .int .i64 g, .agg (Cells.vals c33 (askT a)).toArray] (.tup [(.agg c43), (.one (.int .i64))]) K w := by
 refine F27_calls (a3 := askT a) ?_
 unfold F27
 unfold movedP at hK
 refine (St.start w).newO fun b1 w1 S1 e1 => S1.newO fun b2 w2 S2 e2 => ?_
 have S2 : St (fun _ => False) w w2 [(b2, ldZ), (b1, askO a)] := S2
 have h2 := h.ext S2.upd
 refine S2.ld (off := 0) 1 rfl (x := a.kind) rfl (sif_r (fun hc => ?_) (fun hc => ?_))
 ·simp only [beq_iff_eq] at hc
  rw [if_pos hc] at hK
  exact ask_move (S2.at_ 1 rfl) (S2.ld (off := 6) 1 rfl (x := a.past) rfl (mchars_call h2 fun w3 e3 => hand_r (S2.ext e3) hK))
 simp only [beq_eq_false_iff_ne, ne_eq] at hc
 rw [if_neg hc] at hK
 refine sif_r (fun hc => ?_) (fun hc => ?_)
 ·simp only [beq_iff_eq] at hc
  rw [if_pos hc] at hK
  exact ask_move (S2.at_ 1 rfl) (mrows_call h2 fun w3 e3 => hand_r (S2.ext e3) hK)
 simp only [beq_eq_false_iff_ne, ne_eq] at hc
 rw [if_neg hc] at hK
 refine sif_r (fun hc => ?_) (fun hc => ?_)
 ·simp only [beq_iff_eq] at hc
  rw [if_pos hc] at hK
  exact ask_move (S2.at_ 1 rfl) (S2.ld (off := 6) 1 rfl (x := a.past) rfl (mwords_call h2 fun w3 e3 => hand_r (S2.ext e3) hK))
 simp only [beq_eq_false_iff_ne, ne_eq] at hc
 rw [if_neg hc] at hK
 exact ask_move (S2.at_ 1 rfl) (mparas_call h2 fun w3 e3 => hand_r (S2.ext e3) hK)
end
section
variable {w w' : World} {p : Nat} {A : List Int} {y : Cells.T c26} {c : Int} {l : List UInt8} {L : List (List LEd)} {al : List LAsk}
theorem LookX.ask (h : LookX w y c l L al) {W : World} (x : Ext w W) {i : Nat} {a : LAsk} (ha : al[i]? = some a) {K : Addr → Cells.T c33 → World → Prop} (hK : ∀ q, K q (askT a) W) :
  ix y.2.2.2.1.a y.2.2.2.1.len (i : Int) (fun q => lds c33 (q.add (scaled (Int.toNat (i : Int)) 7)) (K q)) W :=
 ix_ldsX (cs := c33) (xs := al.map askT) (h.asks.row.ext x) (by decide) (Int.natCast_nonneg i) (by rw [Int.toNat_natCast, List.getElem?_map, ha]; rfl) hK
theorem LookX.alen (h : LookX w y c l L al) : al.length = y.2.2.2.1.len := by
 have := SlX.lenR (cs := c33) h.asks.row (by decide)
 rwa [List.length_map] at this
theorem law_r {W0 : World} {x3 : Option Addr × Bool × Unit} {K : Bool → World → Prop} {R : World → Prop} (hx : x3 = (none, true, ()) ∨ ∃ p, x3 = (some (at0 p), true, ()) ∧ R W0)
  (hN : K true W0) : join (S := Bool × Unit) (fun J4 => sif (!x3.2.1) (J4 (true, ())) (J4 ((Option.isNone x3.1), ()))) (fun s5 => sif s5.1 (K x3.2.1) R) W0 := by
 rcases hx with rfl | ⟨p, rfl, hR⟩
 ·exact join_r (fun s W => s = (true, ()) ∧ W0 = W) (sif_false ⟨rfl, rfl⟩) (by rintro _ _ ⟨rfl, rfl⟩; exact sif_true hN)
 ·exact join_r (fun s W => s = (false, ()) ∧ W0 = W) (sif_false ⟨rfl, rfl⟩) (by rintro _ _ ⟨rfl, rfl⟩; exact sif_false hR)
end
section
variable {w w' : World} {p : Nat} {A : List Int} {y : Cells.T c26} {c : Int} {l : List UInt8} {L : List (List LEd)} {al : List LAsk}
theorem LookX.ext {W : World} (h : LookX w y c l L al) (e : Ext w W) : LookX W y c l L al :=
 ⟨h.e, h.i64, h.bytes.ext e, h.blen, ⟨by obtain ⟨ys, g1, g2, g3⟩ := h.edits.ex; exact ⟨ys, g1.ext e, g2, fun i q es hq he => (g3 i q es hq he).ext e⟩, h.edits.few⟩, ⟨h.asks.row.ext e, h.asks.few, h.asks.i64⟩⟩
theorem lands_moved (A : List Int) {a : LAsk} (hk : 4 ≤ a.kind ∧ a.kind ≤ 7) (x g n : Int) : Lands A (a.past && (a.kind == 4 || a.kind == 6)) (movedP A a x g n) := by
 unfold movedP
 rcases (by omega : a.kind = 4 ∨ a.kind = 5 ∨ a.kind = 6 ∨ a.kind = 7) with h | h | h | h
 ·rw [if_pos h, h]
  have := lands_chars A x a.mkd n a.arg a.past
  simpa using this
 ·rw [if_neg (by omega), if_pos h, h]
  have := lands_rows A x g a.mkd n
  simpa using this
 ·rw [if_neg (by omega), if_neg (by omega), if_pos h, h]
  have := lands_words A x a.mkd n a.past
  simpa using this
 ·rw [if_neg (by omega), if_neg (by omega), if_neg (by omega), h]
  have := lands_paras A x a.mkd n
  simpa using this
set_option maxHeartbeats 2000000 in
theorem home_walk (h : LookX w y c l L al) {K : Bool → World → Prop} (hK : ∀ w', Ext w w' → K true w') :
  callT Tryz.prog 8 #[.agg (Cells.vals c26 y).toArray] (.one (.one .bool)) K w := by
 refine F8_calls (a0 := y) ?_
 unfold F8
 have hal := h.alen
 have hfew := h.asks.few
 refine (St.start w).newO fun b1 w1 S1 e1 => ?_
 have S1 : St (fun _ => False) w w1 [(b1, lkO y)] := S1
 refine S1.lds 0 y rfl (ltext_call (h := h.ext e1) (fun w2 e2 => law_r (.inl rfl) (hK w2 (S1.ext e2).upd)) fun p A w2 tx2 e2 => law_r (.inr ⟨p, rfl, ?_⟩) (hK w2 (S1.ext e2).upd))
 have S2 := S1.ext e2
 refine join_r (fun _ W => Ext w W) ?_ (fun _ W hW => hK W hW)
 refine sloop_r (fun x W => ∃ i : Nat, x = ((i : Int), ()) ∧ i ≤ al.length ∧ TxA W p A ∧ St (fun _ => False) w W [(b1, lkO y)]) (fun x _ => ((al.length : Int) - x.1).toNat) ⟨0, rfl, Nat.zero_le _, tx2, S2⟩ ?_
 rintro _ W ⟨i, rfl, hi, tx, SW⟩
 dsimp only
 refine SW.ld (off := 3) 0 rfl (x := y.2.2.2.1) rfl (sif_r (fun hc => ?_) (fun hc => SW.upd))
 simp only [decide_eq_true_eq] at hc
 obtain ⟨a, ha⟩ : ∃ a, al[i]? = some a := ⟨_, List.getElem?_eq_getElem (by omega)⟩
 have ewi : IntKind.wrap .i64 ((i : Int) + 1) = ((i + 1 : Nat) : Int) := by rw [wrap64 (by omega) (by omega)]; omega
 rw [ewi]
 refine join_r (fun _ V => Ext W V) ?_ (fun _ V xV => ⟨⟨i + 1, rfl, by omega, tx.ext xV, SW.ext xV⟩, by omega⟩)
 refine SW.ld (off := 3) 0 rfl (x := y.2.2.2.1) rfl (h.ask SW.upd ha fun q1 => ?_)
 refine (St.start W).newAgg rfl rfl rfl fun bA w4 T4 _ => ?_
 have T4 : St (fun _ => False) W w4 [(bA, askO a)] := T4
 refine T4.ld (off := 1) 0 rfl (x := a.at_) rfl (T4.ld (off := 6) 0 rfl (x := a.past) rfl (mclamp_call (tx.ext T4.upd) fun w5 e5 => ?_))
 have T5 := T4.ext e5
 have sc := stand_clamp A a.at_ a.past
 refine join_r (fun x V => x = (false, ()) ∧ St (fun _ => False) W V [(bA, askO a)]) ?_ ?_
 ·refine T5.drew fun w6 T6 e6 _ => T6.ld (off := 6) 0 rfl (x := a.past) rfl (lhome_call (tx.ext T6.upd) sc fun w7 e7 => sif_false ?_)
  have T7 := T6.ext e7
  refine T7.ld (off := 6) 0 rfl (x := a.past) rfl (mclamp_call (tx.ext T7.upd) fun w8 e8 => ?_)
  rw [sc.clamp, bne_self_eq_false]
  have T8 := T7.ext e8
  refine sif_false (T8.ld (off := 1) 0 rfl (x := a.at_) rfl (T8.ld (off := 2) 0 rfl (x := a.b) rfl (T8.ld (off := 6) 0 rfl (x := a.past) rfl (T8.ld (off := 6) 0 rfl (x := a.past) rfl (mplaceP_call (tx.ext T8.upd) fun w9 e9 => ?_)))))
  have T9 := T8.ext e9
  exact T9.keep (off := 6) 0 rfl (v := .bool a.past) rfl (lhome_call (tx.ext T9.upd) (stand_placeP A a.at_ a.b a.past) fun w10 e10 => ⟨rfl, T9.ext e10⟩)
 rintro _ w6 ⟨rfl, T6⟩
 refine sif_false (join_r (fun x V => x = (decide (¬ (4 ≤ a.kind ∧ a.kind ≤ 7)), ()) ∧ w6 = V) ?_ ?_)
 ·refine T6.ld (off := 0) 0 rfl (x := a.kind) rfl (sif_r (fun hc => ⟨tupb ?_, rfl⟩) (fun hc => T6.ld (off := 0) 0 rfl (x := a.kind) rfl ⟨tupb ?_, rfl⟩))
  all_goals simp only [decide_eq_true_eq, decide_eq_false_iff_not, true_iff, gt_iff_lt] at *
  all_goals omega
 rintro _ _ ⟨rfl, rfl⟩
 refine sif_r (fun _ => T6.upd) (fun hc => ?_)
 have hk : 4 ≤ a.kind ∧ a.kind ≤ 7 := Classical.byContradiction fun hn => (of_decide_eq_false hc) hn
 refine join_r (fun x V => x = (a.past && (a.kind == 4 || a.kind == 6), ()) ∧ w6 = V) ?_ ?_
 ·refine T6.ld (off := 6) 0 rfl (x := a.past) rfl (sif_r (fun hp => T6.ld (off := 0) 0 rfl (x := a.kind) rfl (sif_r (fun h4 => ⟨?_, rfl⟩) (fun h4 => T6.ld (off := 0) 0 rfl (x := a.kind) rfl ⟨?_, rfl⟩))) (fun hp => ⟨?_, rfl⟩))
  ·rw [hp, h4]; rfl
  ·rw [hp, h4]; rfl
  ·rw [hp]; rfl
 rintro _ _ ⟨rfl, rfl⟩
 obtain ⟨pp, hpp⟩ : ∃ pp, (a.past && (a.kind == 4 || a.kind == 6)) = pp := ⟨_, rfl⟩
 have hL := lands_moved A hk a.at_ a.b a.count
 rw [hpp] at hL
 rw [hpp]
 refine T6.ld (off := 1) 0 rfl (x := a.at_) rfl (T6.ld (off := 2) 0 rfl (x := a.b) rfl (T6.lds 0 (askT a) rfl (lmoved_call (tx.ext T6.upd) fun w7 e7 => ?_)))
 obtain ⟨lm, hlm⟩ : ∃ lm, movedP A a a.at_ a.b a.count = lm := ⟨_, rfl⟩
 rw [hlm] at hL
 rw [hlm]
 refine (T6.ext e7).newAgg rfl rfl rfl fun b45 w8 T8 _ => ?_
 have T8 : St (fun _ => False) W w8 [(b45, .cells #[.int .i64 lm.1.1, .int .i64 lm.1.2.1, .int .i64 lm.1.2.2] 43 (0, 0)), (bA, askO a)] := T8
 refine join_r (fun x V => x = (false, ()) ∧ St (fun _ => False) W V [(b45, .cells #[.int .i64 lm.1.1, .int .i64 lm.1.2.1, .int .i64 lm.1.2.2] 43 (0, 0)), (bA, askO a)]) ?_ ?_
 ·refine T8.drew fun w9 T9 e9 _ => sif_r (fun hz => ?_) (fun hz => ⟨rfl, T9⟩)
  obtain ⟨n, hn, sn, k1, k2⟩ := hL.1 (by simpa using hz)
  have hv : (some (Value.int .i64 lm.1.1) : Option Value) = some (Value.int .i64 (n : Int)) := by rw [hn]
  refine T9.ld (off := 0) 0 rfl (x := (n : Int)) hv ?_
  refine lhome_call (tx.ext T9.upd) sn fun w10 e10 => sif_false ?_
  have T10 := T9.ext e10
  refine T10.ld (off := 0) 0 rfl (x := (n : Int)) hv (T10.ld (off := 0) 0 rfl (x := (n : Int)) hv ?_)
  refine mclamp_call (tx.ext T10.upd) fun w11 e11 => ?_
  have T11 := T10.ext e11
  refine T11.keep (off := 0) 0 rfl (v := .int .i64 (n : Int)) hv ?_
  rw [sn.clamp, bne_self_eq_false]
  refine sif_false (T11.ld (off := 1) 0 rfl (x := lm.1.2.1) rfl (sif_r (fun hg => by simp only [decide_eq_true_eq] at hg; omega) (fun _ => T11.ld (off := 1) 0 rfl (x := lm.1.2.1) rfl ⟨tupb ?_, T11⟩)))
  simp only [decide_eq_true_eq, gt_iff_lt, Bool.false_eq_true, iff_false]; omega
 rintro _ w9 ⟨rfl, T9⟩
 refine sif_false (join_r (fun x V => x = (false, ()) ∧ w9 = V) ?_ ?_)
 ·refine sif_r (fun hz => ?_) (fun hz => ⟨rfl, rfl⟩)
  have hz0 := hL.2 (by simpa using hz)
  have v0 : (some (Value.int .i64 lm.1.1) : Option Value) = some (Value.int .i64 0) := by rw [hz0]
  have v1 : (some (Value.int .i64 lm.1.2.1) : Option Value) = some (Value.int .i64 0) := by rw [hz0]
  have v2 : (some (Value.int .i64 lm.1.2.2) : Option Value) = some (Value.int .i64 0) := by rw [hz0]
  exact T9.ld (off := 0) 0 rfl (x := 0) v0 (sif_false (T9.ld (off := 1) 0 rfl (x := 0) v1 (sif_false (T9.ld (off := 2) 0 rfl (x := 0) v2 ⟨rfl, rfl⟩))))
 rintro _ _ ⟨rfl, rfl⟩
 exact sif_false T9.upd
end
end Go.Proofs.YtolhlldgnfbemaaGreat
namespace Go.Proofs.YtolhlldgnfbemaaGreat
open Go Go.Vx Go.ChangeShapes Go.WideShapes Go.RowKit
set_option maxRecDepth 100000 in
theorem motionHome_lifted (os : Os) (started : os.Started) (H : Type) (enc : TypeId × Value → H) (F : Stop.Interp) :
  ReturnsInHanded {} Tryz.checked os 8 .any ((Rows.OpenSpec.upto Rows.motionHomeSpec).pre6 enc Tryz.prog Tryz.f8 Rows.motionHomeUptoRow.domain false) (((Rows.OpenSpec.upto Rows.motionHomeSpec).at F).post enc Tryz.prog Tryz.f8 false true false false) := by
 refine returnsInHanded_of_cond_sized (C := Tryz.checked) (s := Rows.OpenSpec.upto Rows.motionHomeSpec) (k := Rows.uptoSmall) rfl Tryz.own started (by kernel_rfl) Tryz.func8
  (OpenSpec.witness (enc := enc) (C := Tryz.checked) (s := Rows.OpenSpec.upto Rows.motionHomeSpec) (k := Rows.uptoSmall) rfl false ⟨#[], #[.agg #[.int .i64 0, .slice none 0 0, .slice none 0 0, .slice none 0 0]], []⟩ 8 (by kernel_rfl) (by kernel_rfl) (by kernel_rfl)
   (x := ([.agg [.lit (.int .i64 0), .nil, .nil, .nil]], [], [])) (by kernel_rfl) rfl (by kernel_rfl)) ?_
 intro W base args ds gs before hval0 hW _ hk hwt0 _
 have hval : ∀ (j : Nat) t v, Tryz.f8.params[j]? = some t → args[j]? = some v → Value.okWide Tryz.prog W .any base t v := hval0
 have hwt : (DataW.weightsEach Tryz.prog (Tryz.f8.params.toList ++ []) (ds ++ gs)).all (· ≤ reachBytes) = true := hwt0
 have hW' := hW
 obtain ⟨p, q, hA0, hV, rfl, hfz, hnd⟩ := hW
 have hA : DataW.TrodAll enc Tryz.prog W 0 (fun _ => true) true Tryz.f8.params.toList args.toList ds p := hA0
 clear hA0 hval0 hwt0
 rw [Tryz.params8] at hA hval hwt
 obtain ⟨rfl, rfl⟩ := trodVars_none hV
 obtain ⟨hn1, hn2, hT⟩ := trodAll_get hA
 obtain ⟨v0, hv⟩ := list_1 args.toList hn1
 obtain rfl : args = #[v0] := by cases args; simp_all
 obtain ⟨d0, rfl⟩ := list_1 ds hn2
 have hbulk : bulk d0 ≤ 1048576 := by
  have h : Rows.uptoBulkAll ([d0] ++ []) ≤ 1048576 := of_decide_eq_true hk
  simp only [List.append_nil, Rows.uptoBulkAll] at h
  show Rows.uptoBulk d0 ≤ _
  omega
 obtain ⟨p0, q0⟩ := hT 0 26 v0 d0 rfl rfl rfl
 obtain ⟨y, c, l, L, al, rfl, hL⟩ := arg_look (hval 0 26 v0 rfl rfl) q0 (weigh hwt 0 rfl rfl) hbulk
 have walk := home_walk hL (K := fun r w' => r = true ∧ Ext W w') fun w' e => ⟨rfl, e⟩
 refine walk.mono fun e W' ⟨x, he, hx, hext⟩ => ⟨.bool true, ?_, ?_⟩
 ·subst hx; exact he
 ·exact post_same (s := Rows.motionHomeSpec) hW' rfl rfl u4 rfl Tryz.laidOut (fun t ht => by
   rw [Tryz.params8] at ht
   have ht : t ∈ [26] := ht
   simp only [List.mem_cons, List.not_mem_nil, or_false] at ht
   exact recs ht) hext
theorem motionHome_holds : Rows.MotionHomeUptoSaid :=
 OpenClaim.holds_of_cond 8 Tryz.f8 rfl rfl rfl rfl rfl rfl rfl ⟨rfl, rfl, rfl, rfl, rfl⟩ rfl rfl rfl rfl rfl (by kernel_rfl) Tryz.func8 (by kernel_rfl)
  (of_decide_eq_true (by kernel_rfl)) (by unfold Func.isWrapper; rw [if_neg (by decide +kernel)]; exact ⟨rfl, rfl⟩)
  (fun os started H enc _ F => motionHome_lifted os started H enc F)
end Go.Proofs.YtolhlldgnfbemaaGreat
