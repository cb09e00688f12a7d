/- The law holds for every input: it returns true, and each argument reads behind the call as it did. Conditions: those of the form alone. -/
import Derived.Test.YtolhlldgnfbemaaGreatMCu6
set_option linter.unusedVariables false
set_option linter.unusedSimpArgs false
set_option linter.unusedSectionVars false
set_option maxRecDepth 100000
namespace Go.Proofs.YtolhlldgnfbemaaGreat
open Go Go.Vx
noncomputable def F10 (a0 : (Int × Sl × Sl × Sl × Unit)) (K : Bool → World → Prop) : World → Prop :=
 newO (.cells #[(.int .i64 a0.1), (.slice a0.2.1.a a0.2.1.len a0.2.1.cap), (.slice a0.2.2.1.a a0.2.2.1.len a0.2.2.1.cap), (.slice a0.2.2.2.1.a a0.2.2.2.1.len a0.2.2.2.1.cap)] 26) fun b1 =>
 lds c26 (at0 b1) fun (x2 : (Int × Sl × Sl × Sl × Unit)) =>
 callT Tryz.prog 11 #[(.agg (Cells.vals c26 x2).toArray)] (.tup [(.one .ptr), (.one .bool)]) fun (x3 : (Option Addr × Bool × Unit)) =>
 join (S := Bool × Unit) (fun J4 =>
 sif (!x3.2.1) (
 J4 (true, ())) (
 J4 ((Option.isNone x3.1), ()))) fun (s5 : Bool × Unit) =>
 sif s5.1 (
 K x3.2.1) (
 join (S := Unit) (fun J6 =>
 sloop (S := Int × Unit) (fun (s8 : Int × Unit) again9 =>
 ld (.sl) (⟨b1, 3, none⟩ : Addr) fun (x10 : Sl) =>
 sif (decide (s8.1 < ((x10.len : Nat) : Int))) (
 join (S := Unit) (fun J11 =>
 ld (.sl) (⟨b1, 3, none⟩ : Addr) fun (x13 : Sl) =>
 ix x13.a x13.len s8.1 fun p14 =>
 lds c33 (p14.add (scaled (Int.toNat s8.1) 7)) fun (x15 : (Int × Int × Int × Int × Int × Int × Bool × Unit)) =>
 newO (.cells #[(.int .i64 (0 : Int)), (.int .i64 (0 : Int)), (.int .i64 (0 : Int)), (.int .i64 (0 : Int)), (.int .i64 (0 : Int)), (.int .i64 (0 : Int)), (.bool false)] 33) fun b16 =>
 aggSt (at0 b16) (.agg (Cells.vals c33 x15).toArray) 7 <|
 ld (.int .i64) (⟨b16, 1, none⟩ : Addr) fun (x17 : Int) =>
 callT Tryz.prog 12 #[(.pointer x3.1), (.int .i64 x17), (.bool false)] (.one (.one (.int .i64))) fun (x18 : Int) =>
 callT Tryz.prog 13 #[(.pointer x3.1), (.int .i64 x18)] (.tup [(.agg c36), (.one .sl), (.one .bool)]) fun (x19 : ((Int × Int × Int × Int × Unit) × Sl × Bool × Unit)) =>
 newO (.cells #[(.int .i64 (0 : Int)), (.int .i64 (0 : Int)), (.int .i64 (0 : Int)), (.int .i64 (0 : Int))] 36) fun b20 =>
 aggSt (at0 b20) (.agg (Cells.vals c36 x19.1).toArray) 4 <|
 sif (!x19.2.2.1) (
 K false) (
 ld (.int .i64) (⟨b20, 1, none⟩ : Addr) fun (x21 : Int) =>
 callT Tryz.prog 25 #[(.pointer x3.1), (.int .i64 x18), (.int .i64 x21)] (.one (.one .sl)) fun (x22 : Sl) =>
 callT Tryz.prog 14 #[(.slice x22.a x22.len x22.cap)] (.one (.one (.int .i64))) fun (x23 : Int) =>
 ld (.int .i64) (⟨b16, 1, none⟩ : Addr) fun (x24 : Int) =>
 ld (.int .i64) ((⟨b16, 3, none⟩ : Addr).add 1) fun (x25 : Int) =>
 callT Tryz.prog 32 #[(.pointer x3.1), (.int .i64 x24), (.agg #[(.int .i64 (2 : Int)), (.int .i64 x25), (.int .i64 (0 : Int))])] (.tup [(.agg c62), (.one (.int .i64))]) fun (x26 : ((Int × Int × Int × Unit) × Int × Unit)) =>
 newO (.cells #[(.int .i64 (0 : Int)), (.int .i64 (0 : Int)), (.int .i64 (0 : Int))] 62) fun b27 =>
 aggSt (at0 b27) (.agg (Cells.vals c62 x26.1).toArray) 3 <|
 join (S := Bool × Unit) (fun J28 =>
 rdB Tryz.prog (do eqGuard .neq 4 (Operand.tmp 69) (Operand.tmp 71) (.bool (x26.2.1 == (0 : Int))) (.bool (decide (x23 > (0 : Int)))); binOp .neq 4 (.bool (x26.2.1 == (0 : Int))) (.bool (decide (x23 > (0 : Int)))) : Sem Value) fun r30 =>
 sif r30 (
 J28 (true, ())) (
 sif (x26.2.1 != (0 : Int)) (
 J28 ((x26.2.1 != (80 : Int)), ())) (
 J28 (false, ())))) fun (s29 : Bool × Unit) =>
 sif s29.1 (
 K false) (
 sif (x26.2.1 != (0 : Int)) (
 J11 ()) (
 join (S := Bool × Unit) (fun J31 =>
 drew <|
 ld (.int .i64) (at0 b27) fun (x33 : Int) =>
 sif (x33 != x18) (
 J31 (true, ())) (
 ld (.int .i64) (⟨b27, 2, none⟩ : Addr) fun (x34 : Int) =>
 sif (x34 != (0 : Int)) (
 J31 (true, ())) (
 ld (.int .i64) (⟨b27, 1, none⟩ : Addr) fun (x35 : Int) =>
 ld (.int .i64) (⟨b20, 1, none⟩ : Addr) fun (x36 : Int) =>
 sif (decide (x35 > x36)) (
 J31 (true, ())) (
 ld (.int .i64) (⟨b27, 1, none⟩ : Addr) fun (x37 : Int) =>
 sif (decide (x37 ≤ x18)) (
 J31 (true, ())) (
 ld (.int .i64) (at0 b27) fun (x38 : Int) =>
 ld (.int .i64) (⟨b27, 1, none⟩ : Addr) fun (x39 : Int) =>
 ld (.int .i64) ((⟨b16, 3, none⟩ : Addr).add 1) fun (x40 : Int) =>
 callT Tryz.prog 25 #[(.pointer x3.1), (.int .i64 x38), (.int .i64 x39)] (.one (.one .sl)) fun (x41 : Sl) =>
 keep (fun w => w.cell? ((⟨b16, 3, none⟩ : Addr).add 1) = some (Cell.val (.int .i64) x40)) <|
 callT Tryz.prog 14 #[(.slice x41.a x41.len x41.cap)] (.one (.one (.int .i64))) fun (x42 : Int) =>
 keep (fun w => w.cell? ((⟨b16, 3, none⟩ : Addr).add 1) = some (Cell.val (.int .i64) x40)) <|
 J31 ((x42 != (if (if (9999 : Int) < (if (1 : Int) > x40 then (1 : Int) else x40) then (9999 : Int) else (if (1 : Int) > x40 then (1 : Int) else x40)) < x23 then (if (9999 : Int) < (if (1 : Int) > x40 then (1 : Int) else x40) then (9999 : Int) else (if (1 : Int) > x40 then (1 : Int) else x40)) else x23)), ())))))) fun (s32 : Bool × Unit) =>
 sif s32.1 (
 K false) (
 ld (.int .i64) (⟨b27, 1, none⟩ : Addr) fun (x43 : Int) =>
 callT Tryz.prog 28 #[(.pointer x3.1), (.int .i64 x43), (.bool true)] (.one (.one .bool)) fun (x44 : Bool) =>
 sif (!x44) (
 K false) (
 J11 ())))))) fun (s12 : Unit) =>
 again9 ((IntKind.wrap .i64 (s8.1 + (1 : Int))), ())) (
 J6 ())) ((0 : Int), ())) fun (s7 : Unit) =>
 K true)
noncomputable def h10 : Hint := (hS (hR 2) (hS (hR 7) (hS (hJ (33030144, [(24, tB)]) (.region [] (.ops 3 (.split 21 (.skips 2 (hO 1)) (hO 3)))) (hC (hS (hR 2) hL) hL)) (hJ (170141183460469231731687303715817013220, []) (hS (hR 1) (.block (.loop 170141183460469231731687303715817013220 [(5, tI)] (hS (hS (hR 5) (hC hL hL)) (hJ (170141183460469231731687303707294187460, []) (.block (hS (hR 7) (hS (hR 5) (hS (hR 11) (hS (hS (hR 2) (hC (hS (hR 1) hL) hL)) (hS (hR 7) (hS (hR 14) (hS (hJ (2417556491324078996586496, [(80, tB)]) (.region [] (.ops 6 (.split 73 (.skips 6 (hO 1)) (.ops 3 (.split 76 (hO 4) (.skips 2 (hO 2))))))) (hC (hS (hR 1) hL) hL)) (hS (hS (hR 2) (hC hL hL)) (hS (hJ (5316911983129992085058311207723728896, [(121, tB)]) (.region [0, 1, 2, 3, 4, 5, 6, 7, 8, 9, 10, 11, 12, 13, 14, 15, 16, 17, 18, 19, 20, 21, 22, 23, 24, 25, 26, 27, 30, 31, 32, 33, 34, 35, 36, 28, 29, 37, 38] (.ops 5 (.split 87 (.skips 3 (.ops 2 (.skips 5 (.ops 2 (.skips 4 (.ops 2 (.skips 15 (hO 1)))))))) (.ops 5 (.split 92 (.skips 5 (.ops 2 (.skips 4 (.ops 2 (.skips 15 (hO 1)))))) (.ops 7 (.split 99 (.skips 4 (.ops 2 (.skips 15 (hO 1)))) (.ops 6 (.split 105 (.skips 15 (hO 1)) (hO 16)))))))))) (hC (hS (hR 1) hL) hL)) (hS (hR 5) (hC (hS (hR 1) hL) hL)))))))))))) (hR 3)))))) (hS (hR 1) hL)))))
theorem F10_calls {a0 : (Int × Sl × Sl × Sl × Unit)} {K : Bool → World → Prop} {w : World} (h : F10 a0 K w) : callT Tryz.prog 10 #[(.agg (Cells.vals c26 a0).toArray)] (.one (.one .bool)) K w := tied tabOk Tryz.func10 h10 [(.agg (Cells.vals c26 a0).toArray)] h
noncomputable def F11 (a0 : (Int × Sl × Sl × Sl × Unit)) (K : (Option Addr × Bool × Unit) → World → Prop) : World → Prop :=
 newO (.cells #[(.int .i64 a0.1), (.slice a0.2.1.a a0.2.1.len a0.2.1.cap), (.slice a0.2.2.1.a a0.2.2.1.len a0.2.2.1.cap), (.slice a0.2.2.2.1.a a0.2.2.2.1.len a0.2.2.2.1.cap)] 26) fun b1 =>
 callT Tryz.prog 33 #[] (.one (.one .bool)) fun (x2 : Bool) =>
 sif (!x2) (
 K (none, false, ())) (
 join (S := Bool × Unit) (fun J3 =>
 ld (.int .i64) (at0 b1) fun (x5 : Int) =>
 sif (decide (x5 < (1 : Int))) (
 J3 (true, ())) (
 ld (.int .i64) (at0 b1) fun (x6 : Int) =>
 sif (decide (x6 > (4 : Int))) (
 J3 (true, ())) (
 ld (.sl) (⟨b1, 1, none⟩ : Addr) fun (x7 : Sl) =>
 J3 ((decide (((x7.len : Nat) : Int) > (65536 : Int))), ())))) fun (s4 : Bool × Unit) =>
 sif s4.1 (
 K (none, true, ())) (
 drew <|
 ld (.int .i64) (at0 b1) fun (x8 : Int) =>
 ld (.sl) (⟨b1, 1, none⟩ : Addr) fun (x9 : Sl) =>
 rawT Tryz.prog (.one (.one .sl)) (Builtin.append_ #[22, 22] 22 #[(.slice none 0 0), (.slice x9.a x9.len x9.cap)]) fun (x10 : Sl) =>
 keep (fun w => w.cell? (at0 b1) = some (Cell.val (.int .i64) x8)) <|
 callT Tryz.prog 23 #[(.int .i64 x8), (.slice x10.a x10.len x10.cap), (.int .i64 (65536 : Int))] (.tup [(.one .ptr), (.one (.int .i64))]) fun (x11 : (Option Addr × Int × Unit)) =>
 join (S := Bool × Unit) (fun J12 =>
 sif (Option.isNone x11.1) (
 J12 (true, ())) (
 J12 ((x11.2.1 != (0 : Int)), ()))) fun (s13 : Bool × Unit) =>
 sif s13.1 (
 K (none, false, ())) (
 join (S := Unit) (fun J14 =>
 sloop (S := Int × Unit) (fun (s16 : Int × Unit) again17 =>
 ld (.sl) (⟨b1, 2, none⟩ : Addr) fun (x18 : Sl) =>
 sif (decide (s16.1 < ((x18.len : Nat) : Int))) (
 ld (.sl) (⟨b1, 2, none⟩ : Addr) fun (x19 : Sl) =>
 ix x19.a x19.len s16.1 fun p20 =>
 ld (.sl) (p20.add (scaled (Int.toNat s16.1) 1)) fun (x21 : Sl) =>
 callT Tryz.prog 35 #[(.slice x21.a x21.len x21.cap)] (.one (.one .sl)) fun (x22 : Sl) =>
 callT Tryz.prog 34 #[(.pointer x11.1), (.slice x22.a x22.len x22.cap)] (.one (.one (.int .i64))) fun (x23 : Int) =>
 again17 ((IntKind.wrap .i64 (s16.1 + (1 : Int))), ())) (
 J14 ())) ((0 : Int), ())) fun (s15 : Unit) =>
 K (x11.1, true, ()))))
noncomputable def h11 : Hint := (hS (hR 3) (hS (hS (hR 2) (hC (hS (hR 2) hL) hL)) (hS (hJ (8388096, [(22, tB)]) (.region [] (.ops 4 (.split 12 (.skips 3 (.ops 2 (.skips 4 (hO 1)))) (.ops 5 (.split 17 (.skips 4 (hO 1)) (hO 5)))))) (hC (hS (hR 2) hL) hL)) (hS (.region [0, 1, 2, 3, 4, 5, 6, 7, 8, 9, 10] (hO 11)) (hS (hJ (270582939648, [(37, tB)]) (.region [] (.ops 3 (.split 34 (.skips 2 (hO 1)) (hO 3)))) (hC (hS (hR 2) hL) hL)) (hJ (9006924376834112, []) (hS (hR 1) (.block (.loop 9006924376834112 [(6, tI)] (hS (hS (hR 5) (hC hL hL)) (hS (.block (hR 8)) (hR 3)))))) (hS (hR 3) hL)))))))
theorem F11_calls {a0 : (Int × Sl × Sl × Sl × Unit)} {K : (Option Addr × Bool × Unit) → World → Prop} {w : World} (h : F11 a0 K w) : callT Tryz.prog 11 #[(.agg (Cells.vals c26 a0).toArray)] (.tup [(.one .ptr), (.one .bool)]) K w := tied tabOk Tryz.func11 h11 [(.agg (Cells.vals c26 a0).toArray)] h
noncomputable def F13 (a0 : Option Addr) (a1 : Int) (K : ((Int × Int × Int × Int × Unit) × Sl × Bool × Unit) → World → Prop) : World → Prop :=
 newO (.cells #[(.int .i64 (0 : Int)), (.int .i64 (0 : Int)), (.int .i64 (0 : Int)), (.int .i64 (0 : Int))] 36) fun b1 =>
 callT Tryz.prog 20 #[(.pointer a0), (.int .i64 a1)] (.one (.one (.int .i64))) fun (x2 : Int) =>
 callT Tryz.prog 41 #[(.pointer a0), (.int .i64 x2)] (.tup [(.agg c36), (.one (.int .i64))]) fun (x3 : ((Int × Int × Int × Int × Unit) × Int × Unit)) =>
 newO (.cells #[(.int .i64 (0 : Int)), (.int .i64 (0 : Int)), (.int .i64 (0 : Int)), (.int .i64 (0 : Int))] 36) fun b4 =>
 aggSt (at0 b4) (.agg (Cells.vals c36 x3.1).toArray) 4 <|
 join (S := Bool × Unit) (fun J5 =>
 drew <|
 sif (x3.2.1 != (0 : Int)) (
 J5 (true, ())) (
 ld (.int .i64) (at0 b4) fun (x7 : Int) =>
 sif (decide (x7 < (0 : Int))) (
 J5 (true, ())) (
 ld (.int .i64) (⟨b4, 1, none⟩ : Addr) fun (x8 : Int) =>
 ld (.int .i64) (at0 b4) fun (x9 : Int) =>
 sif (decide (x8 < x9)) (
 J5 (true, ())) (
 ld (.int .i64) (⟨b4, 2, none⟩ : Addr) fun (x10 : Int) =>
 ld (.int .i64) (⟨b4, 1, none⟩ : Addr) fun (x11 : Int) =>
 sif (decide (x10 < x11)) (
 J5 (true, ())) (
 ld (.int .i64) (⟨b4, 2, none⟩ : Addr) fun (x12 : Int) =>
 callT Tryz.prog 37 #[(.pointer a0)] (.one (.one (.int .i64))) fun (x13 : Int) =>
 keep (fun w => w.cell? (⟨b4, 2, none⟩ : Addr) = some (Cell.val (.int .i64) x12)) <|
 J5 ((decide (x12 > x13)), ())))))) fun (s6 : Bool × Unit) =>
 sif s6.1 (
 lds c36 (at0 b4) fun (x14 : (Int × Int × Int × Int × Unit)) =>
 aggSt (at0 b1) (.agg (Cells.vals c36 x14).toArray) 4 <|
 lds c36 (at0 b1) fun (x15 : (Int × Int × Int × Int × Unit)) =>
 K (x15, ⟨none, 0, 0⟩, false, ())) (
 ld (.int .i64) (at0 b4) fun (x16 : Int) =>
 ld (.int .i64) (⟨b4, 1, none⟩ : Addr) fun (x17 : Int) =>
 callT Tryz.prog 25 #[(.pointer a0), (.int .i64 x16), (.int .i64 x17)] (.one (.one .sl)) fun (x18 : Sl) =>
 drew <|
 lds c36 (at0 b4) fun (x19 : (Int × Int × Int × Int × Unit)) =>
 ld (.int .i64) (⟨b4, 1, none⟩ : Addr) fun (x20 : Int) =>
 ld (.int .i64) (at0 b4) fun (x21 : Int) =>
 aggSt (at0 b1) (.agg (Cells.vals c36 x19).toArray) 4 <|
 keep (fun w => w.cell? (at0 b4) = some (Cell.val (.int .i64) x21)) <|
 keep (fun w => w.cell? (⟨b4, 1, none⟩ : Addr) = some (Cell.val (.int .i64) x20)) <|
 lds c36 (at0 b1) fun (x22 : (Int × Int × Int × Int × Unit)) =>
 K (x22, x18, (((x18.len : Nat) : Int) == (IntKind.wrap .i64 (x20 - x21))), ()))
noncomputable def h13 : Hint := (hS (hR 3) (hS (hR 11) (hS (hJ (70368743915520, [(45, tB)]) (.region [0, 1, 2, 3, 4, 5, 6, 7, 8, 9, 10, 11, 12, 13, 14, 15, 16, 17, 18, 19, 20, 21, 22, 23, 24, 25, 26, 27] (.ops 3 (.split 20 (.skips 3 (.ops 2 (.skips 5 (.ops 2 (.skips 5 (.ops 2 (.skips 5 (hO 1)))))))) (.ops 5 (.split 25 (.skips 5 (.ops 2 (.skips 5 (.ops 2 (.skips 5 (hO 1)))))) (.ops 7 (.split 32 (.skips 5 (.ops 2 (.skips 5 (hO 1)))) (.ops 7 (.split 39 (.skips 5 (hO 1)) (hO 6)))))))))) (hC (hS (hR 4) hL) hL)) (hS (hR 7) (hS (.region [0, 1, 2, 3, 4, 5, 6, 7, 8, 9, 10, 11, 12] (hO 13)) hL)))))
theorem F13_calls {a0 : Option Addr} {a1 : Int} {K : ((Int × Int × Int × Int × Unit) × Sl × Bool × Unit) → World → Prop} {w : World} (h : F13 a0 a1 K w) : callT Tryz.prog 13 #[(.pointer a0), (.int .i64 a1)] (.tup [(.agg c36), (.one .sl), (.one .bool)]) K w := tied tabOk Tryz.func13 h13 [(.pointer a0), (.int .i64 a1)] h
noncomputable def F28 (a0 : Option Addr) (a1 : Int) (a2 : Bool) (K : Bool → World → Prop) : World → Prop :=
 join (S := Bool × Unit) (fun J1 =>
 sif (decide (a1 < (0 : Int))) (
 J1 (true, ())) (
 callT Tryz.prog 37 #[(.pointer a0)] (.one (.one (.int .i64))) fun (x3 : Int) =>
 J1 ((decide (a1 > x3)), ()))) fun (s2 : Bool × Unit) =>
 sif s2.1 (
 K false) (
 callT Tryz.prog 13 #[(.pointer a0), (.int .i64 a1)] (.tup [(.agg c36), (.one .sl), (.one .bool)]) fun (x4 : ((Int × Int × Int × Int × Unit) × Sl × Bool × Unit)) =>
 newO (.cells #[(.int .i64 (0 : Int)), (.int .i64 (0 : Int)), (.int .i64 (0 : Int)), (.int .i64 (0 : Int))] 36) fun b5 =>
 aggSt (at0 b5) (.agg (Cells.vals c36 x4.1).toArray) 4 <|
 join (S := Bool × Unit) (fun J6 =>
 sif (!x4.2.2.1) (
 J6 (true, ())) (
 ld (.int .i64) (at0 b5) fun (x8 : Int) =>
 sif (decide (a1 < x8)) (
 J6 (true, ())) (
 ld (.int .i64) (⟨b5, 1, none⟩ : Addr) fun (x9 : Int) =>
 sif (decide (a1 > x9)) (
 J6 (true, ())) (
 ld (.int .i64) (at0 b5) fun (x10 : Int) =>
 callT Tryz.prog 60 #[(.slice x4.2.1.a x4.2.1.len x4.2.1.cap), (.int .i64 (IntKind.wrap .i64 (a1 - x10)))] (.one (.one .bool)) fun (x11 : Bool) =>
 J6 ((!x11), ()))))) fun (s7 : Bool × Unit) =>
 sif s7.1 (
 K false) (
 sif a2 (
 K true) (
 ld (.int .i64) (⟨b5, 1, none⟩ : Addr) fun (x12 : Int) =>
 sif (decide (a1 < x12)) (
 callT Tryz.prog 20 #[(.pointer a0), (.int .i64 a1)] (.one (.one (.int .i64))) fun (x13 : Int) =>
 callT Tryz.prog 19 #[(.pointer a0)] (.one (.one (.int .i64))) fun (x14 : Int) =>
 K (decide (x13 < x14))) (
 ld (.int .i64) (at0 b5) fun (x15 : Int) =>
 ld (.int .i64) (⟨b5, 1, none⟩ : Addr) fun (x16 : Int) =>
 sif (x15 == x16) (
 callT Tryz.prog 20 #[(.pointer a0), (.int .i64 a1)] (.one (.one (.int .i64))) fun (x17 : Int) =>
 callT Tryz.prog 19 #[(.pointer a0)] (.one (.one (.int .i64))) fun (x18 : Int) =>
 K (decide (x17 < x18))) (
 K false)))))
noncomputable def h28 : Hint := (hS (hR 1) (hS (hJ (261120, [(17, tB)]) (.region [] (.ops 3 (.split 12 (.skips 4 (hO 1)) (hO 5)))) (hC (hS (hR 1) hL) hL)) (hS (hR 11) (hS (hJ (281474943156224, [(47, tB)]) (.region [] (.ops 3 (.split 27 (.skips 4 (.ops 2 (.skips 4 (.ops 2 (.skips 7 (hO 1)))))) (.ops 6 (.split 33 (.skips 4 (.ops 2 (.skips 7 (hO 1)))) (.ops 6 (.split 39 (.skips 7 (hO 1)) (hO 8)))))))) (hC (hS (hR 1) hL) hL)) (hS (.region [] (.ops 2 (.split 49 (.skips 19 (hO 2)) (.ops 5 (.split 54 (.skips 5 (hO 11)) (.ops 7 (.split 61 (hO 9) (.skips 6 (hO 3))))))))) hL)))))
theorem F28_calls {a0 : Option Addr} {a1 : Int} {a2 : Bool} {K : Bool → World → Prop} {w : World} (h : F28 a0 a1 a2 K w) : callT Tryz.prog 28 #[(.pointer a0), (.int .i64 a1), (.bool a2)] (.one (.one .bool)) K w := tied tabOk Tryz.func28 h28 [(.pointer a0), (.int .i64 a1), (.bool a2)] h
noncomputable def F33  (K : Bool → World → Prop) : World → Prop :=
 newO (.cells #[(.int .u8 (97 : Int)), (.int .u8 (98 : Int)), (.int .u8 (99 : Int))] 5) fun b1 =>
 callT Tryz.prog 23 #[(.int .i64 (1 : Int)), (.slice (some (at0 b1)) 3 3), (.int .i64 (9 : Int))] (.tup [(.one .ptr), (.one (.int .i64))]) fun (x2 : (Option Addr × Int × Unit)) =>
 join (S := Bool × Unit) (fun J3 =>
 sif (Option.isNone x2.1) (
 J3 (true, ())) (
 J3 ((x2.2.1 != (0 : Int)), ()))) fun (s4 : Bool × Unit) =>
 sif s4.1 (
 K false) (
 callT Tryz.prog 16 #[(.pointer x2.1), (.int .i64 (0 : Int)), (.agg #[(.int .i64 (2 : Int)), (.int .i64 (0 : Int)), (.int .i64 (0 : Int))]), (.bool false)] (.tup [(.agg c43), (.one (.int .i64))]) fun (x5 : ((Int × Int × Int × Unit) × Int × Unit)) =>
 newO (.cells #[(.int .i64 (0 : Int)), (.int .i64 (0 : Int)), (.int .i64 (0 : Int))] 43) fun b6 =>
 aggSt (at0 b6) (.agg (Cells.vals c43 x5.1).toArray) 3 <|
 sif (x5.2.1 == (0 : Int)) (
 ld (.int .i64) (at0 b6) fun (x7 : Int) =>
 K (x7 == (1 : Int))) (
 K false))
noncomputable def h33 : Hint := (hS (hR 1) (hS (hR 7) (hS (hJ (64512, [(15, tB)]) (.region [] (.ops 3 (.split 12 (.skips 2 (hO 1)) (hO 3)))) (hC (hS (hR 1) hL) hL)) (hS (hR 9) (hS (.region [] (.ops 3 (.split 24 (hO 5) (.skips 3 (hO 2))))) hL)))))
theorem F33_calls {K : Bool → World → Prop} {w : World} (h : F33  K w) : callT Tryz.prog 33 #[] (.one (.one .bool)) K w := tied tabOk Tryz.func33 h33 [] h
noncomputable def F35 (a0 : Sl) (K : Sl → World → Prop) : World → Prop :=
 join (S := Sl × Unit) (fun J1 =>
 sloop (S := Sl × Int × Unit) (fun (s3 : Sl × Int × Unit) again4 =>
 sif (decide (s3.2.1 < ((a0.len : Nat) : Int))) (
 drew <|
 ix a0.a a0.len s3.2.1 fun p5 =>
 ld (.int .i64) (p5.add (scaled (Int.toNat s3.2.1) 3)) fun (x6 : Int) =>
 ix a0.a a0.len s3.2.1 fun p7 =>
 ld (.int .i64) ((p7.add (scaled (Int.toNat s3.2.1) 3)).add 1) fun (x8 : Int) =>
 ix a0.a a0.len s3.2.1 fun p9 =>
 ld (.sl) ((p9.add (scaled (Int.toNat s3.2.1) 3)).add 2) fun (x10 : Sl) =>
 rawT Tryz.prog (.one (.one .sl)) (Builtin.append_ #[37, 37] 37 #[(.slice none 0 0), (.slice x10.a x10.len x10.cap)]) fun (x11 : Sl) =>
 keep (fun w => w.cell? ((p7.add (scaled (Int.toNat s3.2.1) 3)).add 1) = some (Cell.val (.int .i64) x8)) <|
 keep (fun w => w.cell? (p5.add (scaled (Int.toNat s3.2.1) 3)) = some (Cell.val (.int .i64) x6)) <|
 newO (.cells #[(.int .i64 x6), (.int .i64 x8), (.slice x11.a x11.len x11.cap)] 103) fun b12 =>
 rawT Tryz.prog (.one (.one .sl)) (Builtin.append_ #[69, 69] 69 #[(.slice s3.1.a s3.1.len s3.1.cap), (.slice (some (at0 b12)) 1 1)]) fun (x13 : Sl) =>
 again4 (x13, (IntKind.wrap .i64 (s3.2.1 + (1 : Int))), ())) (
 J1 (s3.1, ()))) (⟨none, 0, 0⟩, (0 : Int), ())) fun (s2 : Sl × Unit) =>
 K s2.1
noncomputable def h35 : Hint := (hS (hR 1) (hS (hR 1) (hJ (2147483640, [(3, tS)]) (hS (hR 1) (.block (.loop 2147483640 [(3, tS), (4, tI)] (hS (hS (hR 4) (hC hL hL)) (hS (.block (.region [0, 1, 2, 3, 4, 5, 6, 7, 8, 9, 10, 11, 12, 13, 14, 15, 16, 17, 18, 19, 20] (hO 21))) (hR 3)))))) (hS (hR 2) hL))))
theorem F35_calls {a0 : Sl} {K : Sl → World → Prop} {w : World} (h : F35 a0 K w) : callT Tryz.prog 35 #[(.slice a0.a a0.len a0.cap)] (.one (.one .sl)) K w := tied tabOk Tryz.func35 h35 [(.slice a0.a a0.len a0.cap)] h
end Go.Proofs.YtolhlldgnfbemaaGreat
namespace Go.Proofs.YtolhlldgnfbemaaGreat
open Go Go.Vx Cdc Trx Gly Clu Lns Obx Mot
theorem eEdits : ElemOk Tryz.prog 69 103 3 40 := ElemOk.of (z := .agg #[.int .i64 0, .int .i64 0, .slice none 0 0]) i69_ok i103_ok rfl rfl rfl (by decide)
section
variable {w w' : World}
theorem able_call {K : Bool → World → Prop} (hK : ∀ w', Ext w w' → K true w') : callT Tryz.prog 33 #[] (.one (.one .bool)) K w := by
 refine F33_calls ?_
 unfold F33
 refine (St.start w).newO fun b1 w1 S1 e1 => ?_
 have hB : By w1 ⟨some (at0 b1), 3, 3⟩ [97, 98, 99] := SlIn.of_box (S1.at_ 0 rfl) (n := 3) (sz := 1) rfl
 refine open_call (e := .u8) (lim := 9) hB (by decide) (by decide) fun p O M w2 tx hA _ e2 _ => ?_
 have hA : atoms (aOf .u8 M) = [97, 98, 99] := by rw [hA]; kernel_rfl
 have ta : TxA w2 p [97, 98, 99] := ⟨_, _, _, _, _, tx, hA⟩
 refine join_r (fun x W => x = (false, ()) ∧ w2 = W) (sif_false ⟨rfl, rfl⟩) ?_
 rintro _ _ ⟨rfl, rfl⟩
 refine sif_false (mchars_call (kind := 2) (count := 0) (arg := 0) (x := 0) ta fun w3 e3 => ?_)
 rw [able_is]
 refine ((S1.ext e2).ext e3).newO fun b6 w4 S4 e4 => S4.aggSt 0 rfl rfl rfl rfl fun w5 S5 _ => ?_
 exact sif_true (S5.ld (off := 0) 0 rfl (x := 1) rfl (hK w5 S5.upd))
theorem ix_fX {c : Cell} {cs : List Cell} {s : Sl} {xs : List (Cells.T cs)} {n : Int} {j : Nat} {K : Addr → c.T → World → Prop} (h : SlX w s cs.length (flat cs xs)) (h0 : 0 ≤ n) {x : Cells.T cs} {y : c.T} (hx : xs[n.toNat]? = some x) (hy : (Cells.vals cs x)[j]? = some (c.val y))
  (hK : ∀ p, (∀ w', Ext w w' → w'.cell? ((p.add (scaled (Int.toNat n) cs.length)).add j) = some (c.val y)) → K p y w) :
  ix s.a s.len n (fun p => ld c ((p.add (scaled (Int.toNat n) cs.length)).add j) (K p)) w := by
 have hlt := (List.getElem?_eq_some_iff.1 hx).1
 have hjl : j < cs.length := by
  have := (List.getElem?_eq_some_iff.1 hy).1
  rwa [vals_len] at this
 have hl := h.lenR (by omega)
 obtain ⟨t, h⟩ := h.in_of (by omega)
 refine h.ix h0 (by omega) (by omega) fun b off ha hv => ?_
 have hc : w.cell? (((⟨b, off, none⟩ : Addr).add (scaled (Int.toNat n) cs.length)).add j) = some (c.val y) := by
  rw [addr_add, addr_add]
  have := hv j (c.val y) (by rw [flat_get cs xs _ j x hx hjl]; exact hy)
  simpa [scaled_eq] using this
 exact ld_of (x := y) hc (hK _ fun w' x' => cell_ext hc x')
theorem ix_fX0 {c : Cell} {cs : List Cell} {s : Sl} {xs : List (Cells.T cs)} {n : Int} {K : Addr → c.T → World → Prop} (h : SlX w s cs.length (flat cs xs)) (h0 : 0 ≤ n) {x : Cells.T cs} {y : c.T} (hx : xs[n.toNat]? = some x) (hy : (Cells.vals cs x)[0]? = some (c.val y))
  (hK : ∀ p, (∀ w', Ext w w' → w'.cell? (p.add (scaled (Int.toNat n) cs.length)) = some (c.val y)) → K p y w) :
  ix s.a s.len n (fun p => ld c (p.add (scaled (Int.toNat n) cs.length)) (K p)) w := by
 have hlt := (List.getElem?_eq_some_iff.1 hx).1
 have hjl : 0 < cs.length := by
  have := (List.getElem?_eq_some_iff.1 hy).1
  rwa [vals_len] at this
 have hl := h.lenR (by omega)
 obtain ⟨t, h⟩ := h.in_of (by omega)
 refine h.ix h0 (by omega) (by omega) fun b off ha hv => ?_
 have hc : w.cell? ((⟨b, off, none⟩ : Addr).add (scaled (Int.toNat n) cs.length)) = some (c.val y) := by
  rw [addr_add]
  have := hv 0 (c.val y) (by rw [flat_get cs xs _ 0 x hx hjl]; exact hy)
  simpa [scaled_eq] using this
 exact ld_of (x := y) hc (hK _ fun w' x' => cell_ext hc x')
set_option maxHeartbeats 400000 in
theorem own_call {s : Sl} {es : List LEd} (h : EdX w s es) {K : Sl → World → Prop} (hK : ∀ r ys w', EdIn w' r 103 ys es → (∀ k, r.blk k → w.heap.size ≤ k) → (∀ (i : Nat) y, ys[i]? = some y → ∀ k, y.2.2.1.blk k → w.heap.size ≤ k) → Ext w w' → K r w') :
  callT Tryz.prog 35 #[.slice s.a s.len s.cap] (.one (.one .sl)) K w := by
 refine F35_calls ?_
 unfold F35
 obtain ⟨ys0, hs, hyl, hy0⟩ := h.ex
 have few := h.few
 have hsl : ys0.length = s.len := SlX.lenR (cs := c103) hs (by decide)
 refine join_r (fun x W => ∃ ys, SlOwn W w.heap.size x.1 103 3 (flat c103 ys) ∧ ys.length = es.length ∧ (∀ (i : Nat) y z, ys[i]? = some y → es[i]? = some z → y.1 = z.f ∧ y.2.1 = z.t ∧ SlOwn W w.heap.size y.2.2.1 3 1 (iv z.put) ∧ z.put.length ≤ 1048576) ∧ Ext w W) ?_ ?_
 ·refine sloop_r (fun x W => ∃ (i : Nat) (ys : List (Cells.T c103)), i ≤ es.length ∧ x.2 = ((i : Int), ()) ∧ SlOwn W w.heap.size x.1 103 3 (flat c103 ys) ∧ ys.length = i ∧ (∀ (j : Nat) y z, ys[j]? = some y → es[j]? = some z → y.1 = z.f ∧ y.2.1 = z.t ∧ SlOwn W w.heap.size y.2.2.1 3 1 (iv z.put) ∧ z.put.length ≤ 1048576) ∧ Ext w W) (fun x _ => ((es.length : Int) - x.2.1).toNat) ⟨0, [], Nat.zero_le _, rfl, SlOwn.nil _ _ _ _, rfl, fun j y z hy => by simp at hy, Ext.refl w⟩ ?_
  rintro ⟨r, _⟩ W ⟨i, ys, hi, rfl, hr, hl, hys, eW⟩
  dsimp only at hr ⊢
  have hrl : ys.length = r.len := SlOwn.lenR (cs := c103) hr (by decide)
  refine sif_r (fun hc => ?_) (fun hc => ?_)
  ·simp only [decide_eq_true_eq] at hc
   obtain ⟨y, hy⟩ : ∃ y, ys0[i]? = some y := ⟨_, List.getElem?_eq_getElem (by omega)⟩
   obtain ⟨z, hz⟩ : ∃ z, es[i]? = some z := ⟨_, List.getElem?_eq_getElem (by omega)⟩
   obtain ⟨y1, y2, y3, y4⟩ := hy0 i y z hy hz
   have ew : IntKind.wrap .i64 ((i : Int) + 1) = ((i + 1 : Nat) : Int) := by rw [wrap64 (by omega) (by omega)]; omega
   rw [ew]
   refine drew_r fun w2 e2 _ => ?_
   have x2 := eW.trans e2
   have hyn : ys0[((i : Int)).toNat]? = some y := by rw [Int.toNat_natCast]; exact hy
   have hs2 := hs.ext x2
   refine ix_fX0 (c := .int .i64) (cs := c103) (xs := ys0) (y := y.1) hs2 (Int.natCast_nonneg i) hyn rfl fun q1 k1 => ?_
   refine ix_fX (c := .int .i64) (cs := c103) (xs := ys0) (j := 1) (y := y.2.1) hs2 (Int.natCast_nonneg i) hyn rfl fun q2 k2 => ?_
   refine ix_fX (c := .sl) (cs := c103) (xs := ys0) (j := 2) (y := y.2.2.1) hs2 (Int.natCast_nonneg i) hyn rfl fun q3 k3 => ?_
   have hpl : z.put.length = y.2.2.1.len := by have := y3.len1; rwa [List.length_map] at this
   refine append_rx eInts eInts.ts_ (B := w.heap.size) (s := ⟨none, 0, 0⟩) (x := y.2.2.1) (vs := []) (us := iv z.put) (SlOwn.nil w2 w.heap.size 3 1) (y3.ext x2) (fun v hv => by obtain ⟨n, _, rfl⟩ := List.mem_map.1 hv; rfl) (by
    show (0 + y.2.2.1.len + (0 + y.2.2.1.len) / 4 + 512) * 8 ≤ 2 ^ 48
    omega) (by have := x2.size; omega) fun s3 w3 o3 l3 u3 b3 => ?_
   have e3 : Ext w2 w3 := (Ext.refl w2).step u3 fun k hk => by obtain ⟨_, hp, _⟩ := hk; cases hp
   have x3 := x2.trans e3
   rw [List.nil_append] at o3
   refine keep_r (k2 w3 e3) (keep_r (k1 w3 e3) (newO_r fun b12 w4 e4 n4 hb4 _ => ?_))
   have x4 := x3.trans e4
   have hbox : SlX w4 ⟨some (at0 b12), 1, 1⟩ 3 (flat c103 [(y.1, y.2.1, s3, ())]) := (SlIn.of_box n4 (n := 1) (sz := 3) rfl).x
   refine append_rx eEdits eEdits.ts_ (x := ⟨some (at0 b12), 1, 1⟩) (hr.ext ((e2.trans e3).trans e4)) hbox (fun v hv => by
    have hv : v ∈ [Value.int .i64 y.1, .int .i64 y.2.1, .slice s3.a s3.len s3.cap] := hv
    simp only [List.mem_cons, List.not_mem_nil, or_false] at hv
    rcases hv with rfl | rfl | rfl <;> rfl) (by
    show (r.len + 1 + (r.len + 1) / 4 + 512) * 40 ≤ 2 ^ 48
    omega) (by have := x4.size; omega) fun r' w5 o5 l5 u5 b5 => ?_
   have x5 : Ext w w5 := x4.step u5 fun k hk => hr.blk_ge hk
   have ef : flat c103 ys ++ flat c103 [(y.1, y.2.1, s3, ())] = flat c103 (ys ++ [(y.1, y.2.1, s3, ())]) := by simp [flat]
   rw [ef] at o5
   have ne : ∀ {sl : Sl} {v : List Int} {V : World}, SlOwn V w.heap.size sl 3 1 (iv v) → Ext V w4 → SlOwn w5 w.heap.size sl 3 1 (iv v) := fun ho e => (ho.ext e).ty (t := 3) u5 (fun k hk c fr hn => by
    obtain ⟨c', fr', hc'⟩ := (hr.ext ((e2.trans e3).trans e4)).in.blk_cells hk
    rw [hn] at hc'
    cases hc')
   refine ⟨⟨i + 1, ys ++ [(y.1, y.2.1, s3, ())], by omega, rfl, o5, by simp [hl], fun j y' z' hy' hz' => ?_, x5⟩, by (try dsimp only); omega⟩
   by_cases hj : j < ys.length
   ·rw [List.getElem?_append_left hj] at hy'
    obtain ⟨g1, g2, g3, g4⟩ := hys j y' z' hy' hz'
    exact ⟨g1, g2, ne g3 ((e2.trans e3).trans e4), g4⟩
   ·have hje : j = i := by
     have := (List.getElem?_eq_some_iff.1 hy').1
     simp at this; omega
    subst hje
    rw [← hl, List.getElem?_concat_length] at hy'
    cases hy'
    rw [hz] at hz'; cases hz'
    exact ⟨y1, y2, ne o3 e4, y4⟩
  ·simp only [decide_eq_false_iff_not] at hc
   obtain rfl : i = es.length := by omega
   exact ⟨ys, hr, hl, hys, eW⟩
 rintro ⟨r, _⟩ W ⟨ys, hr, hl, hys, eW⟩
 refine hK r ys W ⟨hr.in, hl, fun i y z hy hz => ?_⟩ (fun k hk => hr.blk_ge hk) (fun i y hy k hk => ?_) eW
 ·obtain ⟨g1, g2, g3, g4⟩ := hys i y z hy hz
  exact ⟨g1, g2, ⟨_, g3.in⟩, by omega⟩
 ·obtain ⟨z, hz⟩ : ∃ z, es[i]? = some z := ⟨_, List.getElem?_eq_getElem (by have := (List.getElem?_eq_some_iff.1 hy).1; omega)⟩
  exact (hys i y z hy hz).2.2.1.blk_ge hk
abbrev lkO (y : Cells.T c26) : Obj := .cells #[.int .i64 y.1, .slice y.2.1.a y.2.1.len y.2.1.cap, .slice y.2.2.1.a y.2.2.1.len y.2.2.1.cap, .slice y.2.2.2.1.a y.2.2.2.1.len y.2.2.2.1.cap] 26 (0, 0)
theorem EdX.ext {s : Sl} {es : List LEd} (h : EdX w s es) (e : Ext w w') : EdX w' s es := by
 obtain ⟨ys, h1, h2, h3⟩ := h.ex
 exact ⟨⟨ys, h1.ext e, h2, fun i y x hy hx => by obtain ⟨a, b, c, d⟩ := h3 i y x hy hx; exact ⟨a, b, c.ext e, d⟩⟩, h.few⟩
theorem refuse_put {e : Enc} {lim : Nat} {A : As} {es : List LEd} (h : refuseP e lim A es = 0) : putsz e es ≤ lim := by
 unfold refuseP at h
 split at h
 ·cases h
 split at h
 ·cases h
 rename_i hr
 split at h
 ·cases h
 split at h
 ·cases h
 have gl := gone_le (A := A) (es := es) (a := 0) (Int.le_refl _) (by simpa using hr)
 omega
theorem enc_num {c : Int} (h : 1 ≤ c ∧ c ≤ 4) : ∃ e : Enc, e.num = c := by
 rcases (by omega : c = 1 ∨ c = 2 ∨ c = 3 ∨ c = 4) with rfl | rfl | rfl | rfl
 ·exact ⟨.u8, rfl⟩
 ·exact ⟨.le, rfl⟩
 ·exact ⟨.be, rfl⟩
 ·exact ⟨.l1, rfl⟩
set_option maxHeartbeats 1000000 in
theorem ltext_call {y : Cells.T c26} {c : Int} {l : List UInt8} {L : List (List LEd)} {al : List LAsk} (h : LookX w y c l L al) {K : Option Addr × Bool × Unit → World → Prop} (hN : ∀ w', Ext w w' → K (none, true, ()) w')
  (hS : ∀ p A w', TxA w' p A → Ext w w' → K (some (at0 p), true, ()) w') :
  callT Tryz.prog 11 #[.agg (Cells.vals c26 y).toArray] (.tup [(.one .ptr), (.one .bool)]) K w := by
 refine F11_calls (a0 := y) ?_
 unfold F11
 have hbl : l.length = y.2.1.len := by have := h.bytes.len1; rwa [List.length_map] at this
 obtain ⟨ys, hys, hyl, hye⟩ := h.edits.ex
 have few := h.edits.few
 have hsl : ys.length = y.2.2.1.len := by have := hys.len1; rwa [List.length_map] at this
 refine (St.start w).newO fun b1 w1 S1 e1 => able_call fun w2 e2 => sif_false ?_
 have S2 := S1.ext e2
 have S2 : St (fun _ => False) w w2 [(b1, lkO y)] := S2
 refine join_r (fun x W => x = (decide (¬ (1 ≤ c ∧ c ≤ 4 ∧ l.length ≤ 65536)), ()) ∧ w2 = W) ?_ ?_
 ·refine S2.ld (off := 0) 0 rfl (x := c) (congrArg (fun (n : Int) => some (Value.int .i64 n)) h.e) (sif_r (fun hc => ⟨tupb ?_, rfl⟩) (fun hc => S2.ld (off := 0) 0 rfl (x := c) (congrArg (fun (n : Int) => some (Value.int .i64 n)) h.e) (sif_r (fun hc2 => ⟨tupb ?_, rfl⟩) (fun hc2 => S2.ld (off := 1) 0 rfl (x := y.2.1) rfl ⟨tupb ?_, rfl⟩))))
  all_goals simp only [decide_eq_true_eq, decide_eq_false_iff_not, true_iff, gt_iff_lt] at *
  all_goals omega
 rintro _ _ ⟨rfl, rfl⟩
 refine sif_r (fun hc => hN w2 S2.upd) (fun hc => ?_)
 have hc := Classical.byContradiction (fun hn => (of_decide_eq_false hc) hn)
 obtain ⟨e, hen⟩ := enc_num (c := c) ⟨hc.1, hc.2.1⟩
 refine S2.drew fun w3 S3 e3 _ => S3.ld (off := 0) 0 rfl (x := c) (congrArg (fun (n : Int) => some (Value.int .i64 n)) h.e) (S3.ld (off := 1) 0 rfl (x := y.2.1) rfl ?_)
 refine app_by (s := ⟨none, 0, 0⟩) (l := []) (m := l) (B := w.heap.size) (SlOwn.nil w3 w.heap.size 5 1) (h.bytes.ext S3.upd) (by
  show 0 + y.2.1.len + (0 + y.2.1.len) / 4 + 512 ≤ 2 ^ 48
  omega) S3.upd.size fun s4 w4 o4 l4 u4 b4 _ => ?_
 have e4 : Ext w3 w4 := (Ext.refl w3).step u4 fun k hk => by obtain ⟨_, hp, _⟩ := hk; cases hp
 have S4 := S3.ext e4
 rw [List.nil_append] at o4
 refine S4.keep (off := 0) 0 rfl (v := .int .i64 c) (congrArg (fun (n : Int) => some (Value.int .i64 n)) h.e) ?_
 rw [← hen]
 have hB4 : By w4 s4 l := o4.in
 refine open_call (e := e) (lim := 65536) hB4 hc.2.2 (Nat.le_refl _) fun p O M w5 tx hA _ e5 hnew => ?_
 have S5 := S4.ext e5
 refine join_r (fun x W => x = (false, ()) ∧ w5 = W) (sif_false ⟨rfl, rfl⟩) ?_
 rintro _ _ ⟨rfl, rfl⟩
 refine sif_false ?_
 have hb1 : b1 < w4.heap.size := lt_of_heap (S4.at_ 0 rfl)
 have hw4 : w.heap.size ≤ w4.heap.size := S4.upd.size
 refine join_r (fun _ W => ∃ O M na, Txt W p e 65536 na O M ∧ St (fun _ => False) w W [(b1, lkO y)]) ?_ (fun _ W ⟨O, M, na, t, S⟩ => hS p _ W ⟨_, _, _, _, _, t, rfl⟩ S.upd)
 refine sloop_r (fun x W => ∃ (i : Nat) (O : Nat → Prop) (M : Parts) (na : Nat), x = ((i : Int), ()) ∧ i ≤ L.length ∧ Txt W p e 65536 na O M ∧ na ≤ 65536 * i ∧ szs (aOf e M) ≤ 65536 ∧ (∀ k, O k → w4.heap.size ≤ k) ∧ St (fun _ => False) w W [(b1, lkO y)]) (fun x _ => ((L.length : Int) - x.1).toNat) ⟨0, O, M, 0, rfl, Nat.zero_le _, tx, Nat.zero_le _, ?_, hnew, S5⟩ ?_
 ·rw [hA, szs_all]; exact hc.2.2
 rintro _ W ⟨i, O, M, na, rfl, hi, t, hna, hsz, hO, SW⟩
 dsimp only
 refine SW.ld (off := 2) 0 rfl (x := y.2.2.1) rfl (sif_r (fun hc => ?_) (fun hc => ?_))
 ·simp only [decide_eq_true_eq] at hc
  have ew : IntKind.wrap .i64 ((i : Int) + 1) = ((i + 1 : Nat) : Int) := by rw [wrap64 (by omega) (by omega)]; omega
  rw [ew]
  obtain ⟨q, hq⟩ : ∃ q, ys[i]? = some q := ⟨_, List.getElem?_eq_getElem (by omega)⟩
  obtain ⟨es, hes⟩ : ∃ es, L[i]? = some es := ⟨_, List.getElem?_eq_getElem (by omega)⟩
  refine SW.ld (off := 2) 0 rfl (x := y.2.2.1) rfl (ix_ldX (c := .sl) (xs := ys) (hys.ext SW.upd) (Int.natCast_nonneg i) (x := q) (by rw [Int.toNat_natCast]; exact hq) fun p1 => ?_)
  refine own_call ((hye i q es hq hes).ext SW.upd) fun r zs w6 hE hr hz e6 => ?_
  have t6 := t.ext e6
  have S6 := SW.ext e6
  refine changeG_call t6 hE hsz (fun k hk hOk => ?_) (fun j z hj k hk hOk => ?_) (by omega) (fun cc w7 _ _ e7 => ⟨⟨i + 1, O, M, na, rfl, by omega, t6.ext e7, by omega, hsz, hO, S6.ext e7⟩, by omega⟩) fun h0 O' M' w7 t7 _ hs7 u7 _ o2 => ?_
  ·have := hr k hk; have := t.own k hOk; omega
  ·have := hz j z hj k hk; have := t.own k hOk; omega
  ·have hp := refuse_put h0
   refine ⟨⟨i + 1, O', M', _, rfl, by omega, t7, by omega, hs7, fun k hk => ?_, S6.fresh u7 (fun k hk => .inr (by have := hO k hk.1; omega)) (fun z hz hk => ?_)⟩, by omega⟩
   ·rcases o2 k hk with hh | hh
    ·exact hO k hh
    ·have := e6.size; have := SW.upd.size
     have h9 : w4.heap.size ≤ W.heap.size := by
      have := hO p t.op
      have := t.own p t.op
      omega
     omega
   ·rw [List.mem_singleton.1 hz] at hk
    have := hO _ hk.1
    dsimp only at this
    omega
 ·simp only [decide_eq_false_iff_not] at hc
  exact ⟨O, M, na, t, SW⟩
end
section
variable {w w' : World} {p : Nat} {A : List Int}
abbrev lnO (l : Ln) : Obj := .cells #[.int .i64 (l.from_ : Int), .int .i64 (l.to_ : Int), .int .i64 (l.next : Int), .int .i64 (l.kind : Int)] 36 (0, 0)
abbrev lnZ : Obj := .cells #[.int .i64 0, .int .i64 0, .int .i64 0, .int .i64 0] 36 (0, 0)
theorem lline_call (h : TxA w p A) {n : Int} {K : Cells.T c36 × Sl × Bool × Unit → World → Prop} (hK : ∀ s w', SlIn w' s 3 1 (iv (rowB A (ofI A n))) → Ext w w' → K (lnT (rowL A (ofI A n)), s, true, ()) w') :
  callT Tryz.prog 13 #[.pointer (some (at0 p)), .int .i64 n] (.tup [(.agg c36), (.one .sl), (.one .bool)]) K w := by
 refine F13_calls ?_
 unfold F13
 have hi := ofI_le A n
 have ok := row_ok hi
 have hA := h.len
 have ft := ok.ft; have tn := ok.tn; have nl := ok.nl
 generalize hI : ofI A n = i at *
 refine (St.start w).newO fun b1 w1 S1 e1 => (h.ext e1).of fun w2 e2 => ?_
 rw [hI]
 refine ((h.ext e1).ext e2).at_ hi fun w3 e3 => ?_
 refine ((S1.ext e2).ext e3).newO fun b4 w4 S4 e4 => S4.aggSt 0 rfl rfl rfl rfl fun w5 S5 u5 => ?_
 have S5 : St (fun _ => False) w w5 [(b4, lnO (rowL A i)), (b1, lnZ)] := S5
 refine join_r (fun y W => y = (false, ()) ∧ St (fun _ => False) w W [(b4, lnO (rowL A i)), (b1, lnZ)]) ?_ ?_
 ·refine S5.drew fun w6 S6 e6 _ => sif_false (S6.ld (off := 0) 0 rfl (x := ((rowL A i).from_ : Int)) rfl (sif_r (fun hc => by simp only [decide_eq_true_eq] at hc; omega) (fun _ => ?_)))
  refine S6.ld (off := 1) 0 rfl (x := ((rowL A i).to_ : Int)) rfl (S6.ld (off := 0) 0 rfl (x := ((rowL A i).from_ : Int)) rfl (sif_r (fun hc => by simp only [decide_eq_true_eq] at hc; omega) (fun _ => ?_)))
  refine S6.ld (off := 2) 0 rfl (x := ((rowL A i).next : Int)) rfl (S6.ld (off := 1) 0 rfl (x := ((rowL A i).to_ : Int)) rfl (sif_r (fun hc => by simp only [decide_eq_true_eq] at hc; omega) (fun _ => ?_)))
  refine S6.ld (off := 2) 0 rfl (x := ((rowL A i).next : Int)) rfl ((h.ext S6.upd).tlen fun w7 e7 => (S6.ext e7).keep (off := 2) 0 rfl (v := .int .i64 ((rowL A i).next : Int)) rfl ⟨tupb ?_, S6.ext e7⟩)
  simp only [decide_eq_true_eq, gt_iff_lt, Bool.false_eq_true, iff_false]; omega
 rintro _ W ⟨rfl, SW⟩
 refine sif_false (SW.ld (off := 0) 0 rfl (x := ((rowL A i).from_ : Int)) rfl (SW.ld (off := 1) 0 rfl (x := ((rowL A i).to_ : Int)) rfl ((h.ext SW.upd).atoms fun s w6 o6 e6 => ?_)))
 rw [sub_row] at o6
 have S6 := SW.ext e6
 have hsl : s.len = (rowL A i).to_ - (rowL A i).from_ := by
  have := o6.len1
  rw [List.length_map, rowB_length hi] at this
  exact this.symm
 refine S6.drew fun w7 S7 e7 _ => S7.lds 0 (lnT (rowL A i)) rfl (S7.ld (off := 1) 0 rfl (x := ((rowL A i).to_ : Int)) rfl (S7.ld (off := 0) 0 rfl (x := ((rowL A i).from_ : Int)) rfl (S7.aggSt 1 rfl rfl rfl rfl fun w8 S8 u8 => ?_)))
 refine S8.keep (off := 0) 0 rfl (v := .int .i64 ((rowL A i).from_ : Int)) rfl (S8.keep (off := 1) 0 rfl (v := .int .i64 ((rowL A i).to_ : Int)) rfl (S8.lds 1 (lnT (rowL A i)) rfl ?_))
 have e9 : (((s.len : Nat) : Int) == IntKind.wrap .i64 (((rowL A i).to_ : Int) - ((rowL A i).from_ : Int))) = true := by
  rw [wrap64 (by omega) (by omega), beq_iff_eq]; omega
 rw [e9]
 exact hK s w8 ((o6.ext e7).box (S7.at_ 1 rfl) (by decide) u8).in S8.upd
theorem lhome_call (h : TxA w p A) {n : Nat} {past : Bool} (hs : Stand A n past) {K : Bool → World → Prop} (hK : ∀ w', Ext w w' → K true w') :
  callT Tryz.prog 28 #[.pointer (some (at0 p)), .int .i64 (n : Int), .bool past] (.one (.one .bool)) K w := by
 refine F28_calls ?_
 unfold F28
 obtain ⟨h1, h2, h3, h4, h5, h6⟩ := stand_home hs
 have hof : ofI A (n : Int) = nb A n := by unfold ofI; rw [inT_of h4]
 have hA := h.len
 generalize hi : nb A n = i at *
 have ok := row_ok h1
 have tn := ok.tn; have nl := ok.nl; have ft := ok.ft
 refine join_r (fun y W => y = (false, ()) ∧ Ext w W) ?_ ?_
 ·refine sif_r (fun hc => by simp only [decide_eq_true_eq] at hc; omega) (fun _ => h.tlen fun w1 e1 => ⟨tupb ?_, e1⟩)
  simp only [decide_eq_true_eq, gt_iff_lt, Bool.false_eq_true, iff_false]; omega
 rintro _ w1 ⟨rfl, e1⟩
 refine sif_false (lline_call (h.ext e1) fun s w2 o2 e2 => ?_)
 rw [hof] at o2
 rw [hof]
 refine ((St.start w).ext (e1.trans e2)).newO fun b5 w3 S3 e3 => S3.aggSt 0 rfl rfl rfl rfl fun w4 S4 u4 => ?_
 have S4 : St (fun _ => False) w w4 [(b5, lnO (rowL A i))] := S4
 have o4 := (o2.ext e3).box (S3.at_ 0 rfl) (by decide) u4
 refine join_r (fun y W => y = (false, ()) ∧ St (fun _ => False) w W [(b5, lnO (rowL A i))]) ?_ ?_
 ·refine sif_false (S4.ld (off := 0) 0 rfl (x := ((rowL A i).from_ : Int)) rfl (sif_r (fun hc => by simp only [decide_eq_true_eq] at hc; omega) (fun _ => ?_)))
  refine S4.ld (off := 1) 0 rfl (x := ((rowL A i).to_ : Int)) rfl (sif_r (fun hc => by simp only [decide_eq_true_eq] at hc; omega) (fun _ => ?_))
  refine S4.ld (off := 0) 0 rfl (x := ((rowL A i).from_ : Int)) rfl ?_
  have ew : IntKind.wrap .i64 ((n : Int) - ((rowL A i).from_ : Int)) = ((n - (rowL A i).from_ : Nat) : Int) := by rw [wrap64 (by omega) (by omega)]; omega
  rw [ew]
  refine isbreak_call o4 (by rw [rowB_length h1]; omega) fun w5 e5 => ⟨?_, S4.ext e5⟩
  rw [Int.toNat_natCast, h5, decide_eq_true ⟨by omega, by rw [rowB_length h1]; omega⟩]; rfl
 rintro _ W ⟨rfl, SW⟩
 refine sif_false (sif_r (fun hp => hK W SW.upd) (fun hp => ?_))
 obtain ⟨g1, g2⟩ := h6 hp
 have fin : ∀ {V : World}, Ext w V → callT Tryz.prog 20 #[.pointer (some (at0 p)), .int .i64 (n : Int)] (.one (.one (.int .i64))) (fun x => callT Tryz.prog 19 #[.pointer (some (at0 p))] (.one (.one (.int .i64))) fun y => K (decide (x < y))) V := fun x => (h.ext x).of fun w6 e6 => (h.ext (x.trans e6)).count fun w7 e7 => by
  have hlt : ((ofI A (n : Int) : Nat) : Int) < (lnN A : Int) := by rw [hof]; omega
  rw [decide_eq_true hlt]
  exact hK w7 ((x.trans e6).trans e7)
 refine SW.ld (off := 1) 0 rfl (x := ((rowL A i).to_ : Int)) rfl (sif_r (fun hc => fin SW.upd) (fun hc => ?_))
 simp only [decide_eq_false_iff_not] at hc
 refine SW.ld (off := 0) 0 rfl (x := ((rowL A i).from_ : Int)) rfl (SW.ld (off := 1) 0 rfl (x := ((rowL A i).to_ : Int)) rfl (sif_r (fun _ => fin SW.upd) (fun hc2 => ?_)))
 simp only [beq_eq_false_iff_ne, ne_eq] at hc2
 omega
abbrev askO (a : LAsk) : Obj := .cells #[.int .i64 a.kind, .int .i64 a.at_, .int .i64 a.b, .int .i64 a.mkd, .int .i64 a.count, .int .i64 a.arg, .bool a.past] 33 (0, 0)
end
theorem kif (c : Int) : (if (9999 : Int) < (if (1 : Int) > c then (1 : Int) else c) then (9999 : Int) else (if (1 : Int) > c then (1 : Int) else c)) = min (max c 1) 9999 := by
 split <;> split at * <;> omega
section
variable {w w' : World} {p : Nat} {A : List Int} {y : Cells.T c26} {c : Int} {l : List UInt8} {L : List (List LEd)} {al : List LAsk}
theorem LookX.ask (h : LookX w y c l L al) {W : World} (x : Ext w W) {i : Nat} {a : LAsk} (ha : al[i]? = some a) {K : Addr → Cells.T c33 → World → Prop} (hK : ∀ q, K q (askT a) W) :
  ix y.2.2.2.1.a y.2.2.2.1.len (i : Int) (fun q => lds c33 (q.add (scaled (Int.toNat (i : Int)) 7)) (K q)) W :=
 ix_ldsX (cs := c33) (xs := al.map askT) (h.asks.row.ext x) (by decide) (Int.natCast_nonneg i) (by rw [Int.toNat_natCast, List.getElem?_map, ha]; rfl) hK
theorem LookX.alen (h : LookX w y c l L al) : al.length = y.2.2.2.1.len := by
 have := SlX.lenR (cs := c33) h.asks.row (by decide)
 rwa [List.length_map] at this
theorem law_r {W0 : World} {x3 : Option Addr × Bool × Unit} {K : Bool → World → Prop} {R : World → Prop} (hx : x3 = (none, true, ()) ∨ ∃ p, x3 = (some (at0 p), true, ()) ∧ R W0)
  (hN : K true W0) : join (S := Bool × Unit) (fun J4 => sif (!x3.2.1) (J4 (true, ())) (J4 ((Option.isNone x3.1), ()))) (fun s5 => sif s5.1 (K x3.2.1) R) W0 := by
 rcases hx with rfl | ⟨p, rfl, hR⟩
 ·exact join_r (fun s W => s = (true, ()) ∧ W0 = W) (sif_false ⟨rfl, rfl⟩) (by rintro _ _ ⟨rfl, rfl⟩; exact sif_true hN)
 ·exact join_r (fun s W => s = (false, ()) ∧ W0 = W) (sif_false ⟨rfl, rfl⟩) (by rintro _ _ ⟨rfl, rfl⟩; exact sif_false hR)
theorem cur_line (A : List Int) (x : Int) (past : Bool) : nb A (clampP A x past) ≤ brs A ∧ ofI A (clampP A x past : Int) = nb A (clampP A x past) ∧ (rowL A (nb A (clampP A x past))).from_ ≤ clampP A x past ∧ clampP A x past ≤ (rowL A (nb A (clampP A x past))).to_ ∧ clampP A x past ≤ A.length := by
 have hs := stand_clamp A x past
 obtain ⟨h1, h2, h3⟩ := hs.row
 exact ⟨h1, by unfold ofI; rw [inT_of hs.len], h2, h3, hs.len⟩
end
section
variable {w w' : World} {p : Nat} {A : List Int} {y : Cells.T c26} {c : Int} {l : List UInt8} {L : List (List LEd)} {al : List LAsk}
theorem LookX.ext {W : World} (h : LookX w y c l L al) (e : Ext w W) : LookX W y c l L al :=
 ⟨h.e, h.i64, h.bytes.ext e, h.blen, ⟨by obtain ⟨ys, g1, g2, g3⟩ := h.edits.ex; exact ⟨ys, g1.ext e, g2, fun i q es hq he => (g3 i q es hq he).ext e⟩, h.edits.few⟩, ⟨h.asks.row.ext e, h.asks.few, h.asks.i64⟩⟩
end
abbrev spLO (l : Ld) : Obj := .cells #[.int .i64 l.1.1, .int .i64 l.1.2.1, .int .i64 l.1.2.2] 62 (0, 0)
abbrev SpT := Cells.T c62 × Int × Unit
abbrev spLT (l : Ld) : SpT := ((l.1.1, l.1.2.1, l.1.2.2, ()), l.2, ())
abbrev ldLO (l : Ld) : Obj := .cells #[.int .i64 l.1.1, .int .i64 l.1.2.1, .int .i64 l.1.2.2] 43 (0, 0)
theorem kif' (c : Int) : (if (9999 : Int) < (if (1 : Int) > c then (1 : Int) else c) then (9999 : Int) else (if (1 : Int) > c then (1 : Int) else c)) = (kOf c : Int) := by
 unfold kOf
 split <;> split at * <;> split <;> omega
theorem kOf_rng (c : Int) : 1 ≤ kOf c ∧ kOf c ≤ 9999 := by unfold kOf; split <;> omega
section
variable {w w' : World} {p : Nat} {A : List Int}
set_option maxHeartbeats 1000000 in
theorem lineend_call (h : TxA w p A) {s : Nat} (hs : clampP A (s : Int) true = s) {to_ kind count arg : Int} {K : Int × Bool × Unit → World → Prop}
  (hK : ∀ w', Ext w w' → K (((rowL A (ofI A (passedP A s (decide (kind = 25)) (kOf count) : Int))).to_ : Int), decide (ofI A (passedP A s (decide (kind = 25)) (kOf count) : Int) < ofI A to_), ()) w') :
  callT Tryz.prog 62 #[.pointer (some (at0 p)), .int .i64 (s : Int), .int .i64 to_, .agg (Cells.vals c31 (mvM kind count arg)).toArray] (.tup [(.one (.int .i64)), (.one .bool)]) K w := by
 refine F62_calls (a3 := mvM kind count arg) ?_
 unfold F62
 have eb : (kind == 25) = decide (kind = 25) := by rw [Bool.eq_iff_iff, beq_iff_eq, decide_eq_true_eq]
 obtain ⟨big, hbig⟩ : ∃ big, decide (kind = 25) = big := ⟨_, rfl⟩
 rw [hbig] at hK eb
 have hkr := kOf_rng count
 obtain ⟨kk, hkk⟩ : ∃ kk, kOf count = kk := ⟨_, rfl⟩
 rw [hkk] at hK hkr
 refine (St.start w).newO fun b1 w1 S1 e1 => ?_
 have S1 : St (fun _ => False) w w1 [(b1, mvMO kind count arg)] := S1
 refine S1.ld (off := 0) 0 rfl (x := kind) rfl ?_
 rw [eb]
 refine newwalk_call (h.ext S1.upd) hs fun bw r0 w2 hw hbw e2 => ?_
 have S2 := S1.ext e2
 have hon := (pos_is A (s : Int) true).1
 have hoff : offP A (posP A (s : Int) true) = s := by rw [(pos_is A (s : Int) true).2.1, hs]
 have hpass : passedP A s big kk = ((((((aft A (posP A (s : Int) true)).filter (begB A big)).map (offP A)).take (kk - 1)).getLast?).getD s) := by
  unfold passedP
  have := marks_aft (begB A big) hon
  rw [hoff] at this
  rw [this]
 rw [hpass] at hK
 obtain ⟨f, hf⟩ : ∃ f, (((((aft A (posP A (s : Int) true)).filter (begB A big)).map (offP A)).take (kk - 1)).getLast?).getD s = f := ⟨_, rfl⟩
 rw [hf] at hK
 have fin : ∀ {W : World}, Ext w W → (callT Tryz.prog 36 #[.pointer (some (at0 p)), .int .i64 (f : Int), .bool true] (.one (.agg c72)) fun x14 => newO (.cells #[(.int .i64 (0 : Int)), (.int .i64 (0 : Int)), (.int .i64 (0 : Int)), (.int .i64 (0 : Int)), (.int .i64 (0 : Int)), (.slice none 0 0), (.slice none 0 0)] 72) fun b15 =>
   aggSt (at0 b15) (.agg (Cells.vals c72 x14).toArray) 7 <| drew <| ld (.int .i64) (⟨b15, 1, none⟩ : Addr) fun (x16 : Int) => ld (.int .i64) (⟨b15, 4, none⟩ : Addr) fun (x17 : Int) =>
   callT Tryz.prog 20 #[(.pointer (some (at0 p))), (.int .i64 to_)] (.one (.one (.int .i64))) fun (x18 : Int) => keep (fun w => w.cell? (⟨b15, 4, none⟩ : Addr) = some (Cell.val (.int .i64) x17)) <| keep (fun w => w.cell? (⟨b15, 1, none⟩ : Addr) = some (Cell.val (.int .i64) x16)) <|
   K (x16, (decide (x18 > x17)), ())) W := fun {W} eW => by
  refine rowat_call (h.ext eW) fun r w3 hr e3 => ?_
  have er : rowI A (f : Int) true = ofI A (f : Int) := by unfold rowI; rw [if_pos rfl]
  rw [er] at hr
  refine ((St.start w).ext (eW.trans e3)).newAgg rfl rfl rfl fun b15 w4 S4 e4 => ?_
  have S4 : St (fun _ => False) w w4 [(b15, rwO r)] := S4
  have ht := hr.t; have hn := hr.num
  refine S4.drew fun w5 S5 e5 _ => S5.ld (off := 1) 0 rfl (x := r.2.1) rfl (S5.ld (off := 4) 0 rfl (x := r.2.2.2.2.1) rfl ((h.ext S5.upd).of fun w6 e6 => ?_))
  have S6 := S5.ext e6
  refine S6.keep (off := 4) 0 rfl (v := .int .i64 r.2.2.2.2.1) rfl (S6.keep (off := 1) 0 rfl (v := .int .i64 r.2.1) rfl ?_)
  rw [ht, hn]
  have := hK w6 S6.upd
  have ed : decide (((ofI A to_ : Nat) : Int) > ((ofI A (f : Int) : Nat) : Int)) = decide (ofI A (f : Int) < ofI A to_) := by rw [Bool.eq_iff_iff, decide_eq_true_eq, decide_eq_true_eq]; omega
  rw [ed]; exact this
 refine join_r (fun x W => x = ((f : Int), ()) ∧ Ext w W) ?_ (fun x W hx => by rw [hx.1]; exact fin hx.2)
 refine S2.ld (off := 1) 0 rfl (x := count) rfl ?_
 rw [kif', hkk]
 have ew0 : IntKind.wrap .i64 ((kk : Int) - 1) = ((kk - 1 : Nat) : Int) := by rw [wrap64 (by omega) (by omega)]; omega
 rw [ew0]
 have hbw2 : w.heap.size ≤ bw := by have := S1.upd.size; omega
 refine sloop_g (fun (g : Nat × Nat × (Nat × Nat) × RwT) x W => x = ((g.2.1 : Int), (g.1 : Int), ()) ∧ g.1 ≤ 9999 ∧ WkIs W bw p A big g.2.2.1 g.2.2.2 ∧ Ext w W ∧ ((((aft A g.2.2.1).filter (begB A big)).map (offP A)).take g.1).getLast?.getD g.2.1 = f) (fun g => (aft A g.2.2.1).length) (kk - 1, s, posP A (s : Int) true, r0) ⟨rfl, by dsimp only; omega, hw, S2.upd, hf⟩ ?_
 rintro ⟨k, v, q, r⟩ _ W R ⟨rfl, hk, hW, eW, hv⟩ hR
 dsimp only at hk hW hv hR ⊢
 refine join_r (fun x V => (x = (false, ()) ∧ v = f ∧ Ext w V) ∨ (x = (true, ()) ∧ 0 < k ∧ ∃ q2 r2, nextW A q = some q2 ∧ WkIs V bw p A big q2 r2 ∧ Ext w V)) ?_ ?_
 ·refine sif_r (fun hc => ?_) (fun hc => ?_)
  ·simp only [decide_eq_true_eq, gt_iff_lt] at hc
   refine wknext_call hW (fun hn W1 e1' => .inl ⟨rfl, ?_, eW.trans e1'⟩) (fun q2 r2 W1 hn hW1 u1 => .inr ⟨rfl, by omega, q2, r2, hn, hW1, eW.step u1 fun k hk => by omega⟩)
   rw [aft_none hn] at hv
   simpa using hv
  ·simp only [decide_eq_false_iff_not, gt_iff_lt] at hc
   refine .inl ⟨rfl, ?_, eW⟩
   rw [show k = 0 by omega] at hv
   simpa using hv
 rintro _ V (⟨rfl, rfl, eV⟩ | ⟨rfl, hk0, q2, r2, hn, hV, eV⟩)
 ·exact sif_false ⟨rfl, eV⟩
 refine sif_true (wkbegins_call hV (nextW_plc hW.on hn) fun V1 e1' => ?_)
 have hlen : (aft A q2).length < (aft A q).length := by rw [aft_some hn]; simp
 rw [aft_some hn] at hv
 refine sif_r (fun hb => ?_) (fun hb => ?_)
 ·refine wkat_call (hV.ext e1') fun V2 e2' => ?_
  have ew : IntKind.wrap .i64 ((k : Int) - 1) = ((k - 1 : Nat) : Int) := by rw [wrap64 (by omega) (by omega)]; omega
  rw [ew]
  refine hR (k - 1, offP A q2, q2, r2) _ V2 ⟨rfl, by dsimp only; omega, (hV.ext e1').ext e2', (eV.trans e1').trans e2', ?_⟩ hlen
  dsimp only
  rw [List.filter_cons_of_pos hb, List.map_cons, show k = k - 1 + 1 by omega, List.take_succ_cons, List.getLast?_cons] at hv
  simpa using hv
 ·refine hR (k, v, q2, r2) _ V1 ⟨rfl, hk, hV.ext e1', eV.trans e1', ?_⟩ hlen
  dsimp only
  rw [List.filter_cons_of_neg (by rw [hb]; decide)] at hv
  exact hv
theorem sp_end {W w0 : World} {b1 : Nat} {l : Ld} {o : Obj} {ls : List (Nat × Obj)} {K : SpT → World → Prop} {a b c : Int} {i : Nat} (S : St (fun _ => False) w0 W ls) (hi : ls[i]? = some (b1, spLO ((a, b, c), 0))) (hK : ∀ w', Ext w0 w' → K (spLT l) w') :
  aggSt (at0 b1) (.agg #[.int .i64 l.1.1, .int .i64 l.1.2.1, .int .i64 l.1.2.2]) 3 (lds c62 (at0 b1) fun y => K (y, l.2, ())) W := by
 have hlt := (List.getElem?_eq_some_iff.1 hi).1
 refine S.aggSt i hi rfl rfl rfl fun w1 S1 _ => S1.lds i (spLT l).1 (by rw [List.getElem?_set_self hlt]; rfl) (hK w1 S1.upd)
set_option maxHeartbeats 1000000 in
theorem between_call (h : TxA w p A) {a b kind : Int} {K : SpT → World → Prop} (hK : ∀ w', Ext w w' → K (spLT (betweenP A a b kind)) w') :
  callT Tryz.prog 30 #[.pointer (some (at0 p)), .int .i64 a, .int .i64 b, .int .i64 kind] (.tup [(.agg c62), (.one (.int .i64))]) K w := by
 refine F30_calls ?_
 unfold F30
 have hA := h.len
 unfold betweenP at hK
 dsimp only at hK
 refine (St.start w).newO fun b1 w1 S1 e1 => mclamp_call (h.ext S1.upd) fun w2 e2 => mclamp_call (h.ext (S1.ext e2).upd) fun w3 e3 => ?_
 have S3 := (S1.ext e2).ext e3
 have S3 : St (fun _ => False) w w3 [(b1, spLO ((0, 0, 0), 0))] := S3
 obtain ⟨ca, hca⟩ : ∃ ca, clampP A a true = ca := ⟨_, rfl⟩
 obtain ⟨cb, hcb⟩ : ∃ cb, clampP A b true = cb := ⟨_, rfl⟩
 rw [hca, hcb] at hK
 rw [hca, hcb]
 have emin : (if (cb : Int) < (ca : Int) then (cb : Int) else (ca : Int)) = ((min ca cb : Nat) : Int) := by split <;> omega
 have emax : (if (cb : Int) > (ca : Int) then (cb : Int) else (ca : Int)) = ((max ca cb : Nat) : Int) := by split <;> omega
 rw [emin, emax]
 obtain ⟨lo, hlo⟩ : ∃ lo, min ca cb = lo := ⟨_, rfl⟩
 obtain ⟨hi, hhi⟩ : ∃ hi, max ca cb = hi := ⟨_, rfl⟩
 rw [hlo, hhi] at hK
 rw [hlo, hhi]
 refine rowat_call (h.ext S3.upd) fun r w4 hr e4 => ?_
 have er : rowI A (hi : Int) true = ofI A (hi : Int) := by unfold rowI; rw [if_pos rfl]
 rw [er] at hr
 obtain ⟨i, hi'⟩ : ∃ i, ofI A (hi : Int) = i := ⟨_, rfl⟩
 rw [hi'] at hK hr
 have hf := hr.f; have ht := hr.t; have hn := hr.num; have fw := hr.few
 have hib := hr.row; have hbl := brs_le A
 refine (S3.ext e4).newAgg rfl rfl rfl fun b5 w5 S5 e5 => ?_
 have S5 : St (fun _ => False) w w5 [(b5, rwO r), (b1, spLO ((0, 0, 0), 0))] := S5
 have hr5 := hr.ext e5
 refine sif_r (fun hk => ?_) (fun hk => ?_)
 ·rw [beq_iff_eq] at hk
  rw [if_pos hk] at hK
  refine join_r (fun x V => x = (((if hi = (rowL A i).from_ ∧ lo < hi ∧ 0 < i then max (rowL A (i - 1)).to_ lo else hi : Nat) : Int), ()) ∧ ∃ ls, St (fun _ => False) w V ls ∧ ls[ls.length - 1]? = some (b1, spLO ((0, 0, 0), 0))) ?_ ?_
  ·refine join_r (fun x V => x = (decide (hi = (rowL A i).from_ ∧ lo < hi ∧ 0 < i), ()) ∧ w5 = V) ?_ ?_
   ·refine S5.ld (off := 0) 0 rfl (x := r.1) rfl ?_
    rw [hf]
    refine sif_r (fun h1 => sif_r (fun h2 => S5.ld (off := 4) 0 rfl (x := r.2.2.2.2.1) rfl ⟨tupb ?_, rfl⟩) (fun h2 => ⟨tupb ?_, rfl⟩)) (fun h1 => ⟨tupb ?_, rfl⟩)
    ·simp only [beq_iff_eq, decide_eq_true_eq, gt_iff_lt] at h1 h2 ⊢
     rw [hn]; omega
    ·simp only [beq_iff_eq, decide_eq_false_iff_not] at h1 h2
     simp only [Bool.false_eq_true, decide_eq_true_eq, false_iff]; omega
    ·simp only [beq_eq_false_iff_ne, ne_eq] at h1
     simp only [Bool.false_eq_true, decide_eq_true_eq, false_iff]; omega
   rintro _ _ ⟨rfl, rfl⟩
   refine sif_r (fun hc => ?_) (fun hc => ?_)
   ·have hc := of_decide_eq_true hc
    rw [if_pos hc]
    refine S5.ld (off := 4) 0 rfl (x := r.2.2.2.2.1) rfl ?_
    have ew : IntKind.wrap .i64 (r.2.2.2.2.1 - 1) = ((i - 1 : Nat) : Int) := by rw [hn, wrap64 (by omega) (by omega)]; omega
    rw [ew]
    refine (h.ext S5.upd).at_ (by omega) fun w6 e6 => (S5.ext e6).newAgg rfl rfl rfl fun b14 w7 S7 _ => ?_
    have S7 : St (fun _ => False) w w7 [(b14, .cells #[.int .i64 ((rowL A (i - 1)).from_ : Int), .int .i64 ((rowL A (i - 1)).to_ : Int), .int .i64 ((rowL A (i - 1)).next : Int), .int .i64 ((rowL A (i - 1)).kind : Int)] 36 (0, 0)), (b5, rwO r), (b1, spLO ((0, 0, 0), 0))] := S7
    refine S7.ld (off := 1) 0 rfl (x := ((rowL A (i - 1)).to_ : Int)) rfl ⟨?_, _, S7, rfl⟩
    have : (if (lo : Int) > ((rowL A (i - 1)).to_ : Int) then (lo : Int) else ((rowL A (i - 1)).to_ : Int)) = ((max (rowL A (i - 1)).to_ lo : Nat) : Int) := by split <;> omega
    rw [this]
   ·have hc := of_decide_eq_false hc
    rw [if_neg hc]
    exact ⟨rfl, _, S5, rfl⟩
  rintro _ V ⟨rfl, ls, SV, hls⟩
  refine sp_end (l := (((lo : Int), (((if hi = (rowL A i).from_ ∧ lo < hi ∧ 0 < i then max (rowL A (i - 1)).to_ lo else hi : Nat) : Int)), 0), 0)) (o := spLO ((0, 0, 0), 0)) SV hls fun w' x => ?_
  have := hK w' x
  split at this
  ·rename_i hc; rw [if_pos hc]; exact this
  ·rename_i hc; rw [if_neg hc]; exact this
 rw [beq_eq_false_iff_ne] at hk
 rw [if_neg hk] at hK
 refine sif_r (fun hk => ?_) (fun hk => ?_)
 ·rw [beq_iff_eq] at hk
  rw [if_pos hk] at hK
  refine join_r (fun x V => x = (((if hi < (rowL A i).to_ then placeR A i ((firstI (rowC A i) (hi : Int) : Nat) + 1) else hi : Nat) : Int), ()) ∧ St (fun _ => False) w V [(b5, rwO r), (b1, spLO ((0, 0, 0), 0))]) ?_ ?_
  ·refine S5.ld (off := 1) 0 rfl (x := r.2.1) rfl ?_
   rw [ht]
   refine sif_r (fun hc => ?_) (fun hc => ?_)
   ·simp only [decide_eq_true_eq] at hc
    rw [if_pos (by omega)]
    refine S5.drew fun w6 S6 e6 _ => S6.lds 0 r rfl (S6.lds 0 r rfl (mcol_call (hr5.ext e6) fun w7 e7 => ?_))
    have S7 := S6.ext e7
    have hfl := firstI_le (rowC A i) (hi : Int)
    have ew : IntKind.wrap .i64 ((firstI (rowC A i) (hi : Int) : Int) + 1) = ((firstI (rowC A i) (hi : Int) : Nat) : Int) + 1 := wrap64 (by omega) (by omega)
    rw [ew]
    exact S7.keeps 0 (x := r) rfl (mplace_call ((hr5.ext e6).ext e7) fun w8 e8 => ⟨rfl, S7.ext e8⟩)
   ·simp only [decide_eq_false_iff_not] at hc
    rw [if_neg (by omega)]
    exact ⟨rfl, S5⟩
  rintro _ V ⟨rfl, SV⟩
  exact sp_end (l := (((lo : Int), (((if hi < (rowL A i).to_ then placeR A i ((firstI (rowC A i) (hi : Int) : Nat) + 1) else hi : Nat) : Int)), 0), 0)) (o := spLO ((0, 0, 0), 0)) (i := 1) SV rfl hK
 rw [beq_eq_false_iff_ne] at hk
 rw [if_neg hk] at hK
 refine sif_r (fun hk => ?_) (fun hk => ?_)
 ·rw [beq_iff_eq] at hk
  rw [if_pos hk] at hK
  refine rowat_call (h.ext S5.upd) fun r1 w6 hr1 e6 => rowat_call (h.ext (S5.ext e6).upd) fun r2 w7 hr2 e7 => ?_
  have S7 := (S5.ext e6).ext e7
  refine S7.newO fun b27 w8 S8 e8 => S8.newO fun b28 w9 S9 e9 => S9.aggSt 1 rfl rfl rfl rfl fun w10 S10 _ => S10.aggSt 0 rfl rfl rfl rfl fun w11 S11 _ => ?_
  have S11 : St (fun _ => False) w w11 [(b28, rwO r2), (b27, rwO r1), (b5, rwO r), (b1, spLO ((0, 0, 0), 0))] := S11
  refine S11.ld (off := 0) 1 rfl (x := r1.1) rfl (S11.ld (off := 2) 0 rfl (x := r2.2.2.1) rfl ?_)
  rw [hr1.f, hr2.n]
  exact sp_end (l := ((((rowL A (rowI A (lo : Int) false)).from_ : Int), ((rowL A (rowI A (hi : Int) false)).next : Int), 1), 0)) (o := spLO ((0, 0, 0), 0)) (i := 3) S11 rfl hK
 ·rw [beq_eq_false_iff_ne] at hk
  rw [if_neg hk] at hK
  exact sp_end (l := noP 1) (o := spLO ((0, 0, 0), 0)) (i := 1) S5 rfl hK
set_option maxHeartbeats 2000000 in
theorem reach_call (h : TxA w p A) {x kind count arg : Int} {K : SpT → World → Prop} (hK : ∀ w', Ext w w' → K (spLT (reachP A x kind count arg)) w') :
  callT Tryz.prog 32 #[.pointer (some (at0 p)), .int .i64 x, .agg (Cells.vals c31 (mvM kind count arg)).toArray] (.tup [(.agg c62), (.one (.int .i64))]) K w := by
 refine F32_calls (a2 := mvM kind count arg) ?_
 unfold F32
 refine (St.start w).newO fun b1 w1 S1 e1 => S1.newO fun b2 w2 S2 e2 => mclamp_call (h.ext S2.upd) fun w3 e3 => (S2.ext e3).newO fun b4 w4 S4 e4 => ?_
 have S4 : St (fun _ => False) w w4 [(b4, ldLO (noP 1)), (b2, spLO ((0, 0, 0), 0)), (b1, mvMO kind count arg)] := S4
 have ss := stand_past (stand_clamp A x false)
 unfold reachP at hK
 dsimp only at hK
 obtain ⟨s, hs⟩ : ∃ s, clampP A x false = s := ⟨_, rfl⟩
 rw [hs] at hK ss
 rw [hs]
 have hsc := ss.clamp
 obtain ⟨l, hl⟩ : ∃ l, goP A (s : Int) kind count arg = l := ⟨_, rfl⟩
 rw [hl] at hK
 unfold goP at hl
 refine join_r (fun y V => y = (l.2, ()) ∧ ∃ kd, (kd = kind ∨ (kind = 60 ∧ kd = 15)) ∧ St (fun _ => False) w V [(b4, ldLO l), (b2, spLO ((0, 0, 0), 0)), (b1, mvMO kd count arg)]) ?_ ?_
 ·refine S4.ld (off := 0) 2 rfl (x := kind) rfl ?_
  have two : ∀ {lo hi : Int} {V : World}, join (S := Bool × Unit) (fun J8 => sif (decide (kind ≥ lo)) (J8 (decide (kind ≤ hi), ())) (J8 (false, ()))) = join (S := Bool × Unit) (fun J8 => sif (decide (kind ≥ lo)) (J8 (decide (kind ≤ hi), ())) (J8 (false, ()))) := rfl
  have rng : ∀ {lo hi : Int} {V : World} {B C : World → Prop}, (lo ≤ kind ∧ kind ≤ hi → B V) → (¬ (lo ≤ kind ∧ kind ≤ hi) → C V) → join (S := Bool × Unit) (fun J8 => sif (decide (kind ≥ lo)) (J8 (decide (kind ≤ hi), ())) (J8 (false, ()))) (fun s9 => sif s9.1 B C) V := fun {lo hi V B C} hB hC => by
   refine join_r (fun y V' => y = (decide (lo ≤ kind ∧ kind ≤ hi), ()) ∧ V = V') ?_ ?_
   ·refine sif_r (fun h1 => ⟨tupb ?_, rfl⟩) (fun h1 => ⟨tupb ?_, rfl⟩)
    ·simp only [decide_eq_true_eq, ge_iff_le] at h1 ⊢
     exact ⟨fun hh => ⟨h1, hh⟩, fun hh => hh.2⟩
    ·simp only [decide_eq_false_iff_not, ge_iff_le] at h1
     simp only [Bool.false_eq_true, decide_eq_true_eq, false_iff]
     exact fun hh => h1 hh.1
   ·rintro _ _ ⟨rfl, rfl⟩
    exact sif_r (fun hc => hB (of_decide_eq_true hc)) (fun hc => hC (of_decide_eq_false hc))
  refine rng (fun hc => ?_) (fun hc => ?_)
  ·rw [if_pos hc] at hl
   refine S4.lds 2 (mvM kind count arg) rfl (mchars_call (h.ext S4.upd) fun w5 e5 => ?_)
   rw [hl]
   exact (S4.ext e5).aggSt 0 rfl rfl rfl rfl fun w6 S6 _ => ⟨rfl, kind, .inl rfl, S6⟩
  rw [if_neg hc] at hl
  refine rng (fun hc => ?_) (fun hc => ?_)
  ·rw [if_pos hc] at hl
   refine S4.drew fun w5 S5 e5 _ => S5.lds 2 (mvM kind count arg) rfl (mcolumn_call (h.ext S5.upd) fun w6 e6 => ?_)
   have S6 := S5.ext e6
   refine S6.keeps 2 (x := mvM kind count arg) rfl (mrows_call (h.ext S6.upd) fun w7 e7 => ?_)
   rw [hl]
   exact (S6.ext e7).aggSt 0 rfl rfl rfl rfl fun w6 S6 _ => ⟨rfl, kind, .inl rfl, S6⟩
  rw [if_neg hc] at hl
  refine sif_r (fun hc => ?_) (fun hc => ?_)
  ·rw [beq_iff_eq] at hc
   rw [if_pos hc] at hl
   refine S4.stC (off := 0) 2 rfl (by show 0 < 3; decide) fun w5 S5 _ => ?_
   have S5 : St (fun _ => False) w w5 [(b4, ldLO (noP 1)), (b2, spLO ((0, 0, 0), 0)), (b1, mvMO 15 count arg)] := S5
   refine S5.lds 2 (mvM 15 count arg) rfl (mrows_call (h.ext S5.upd) fun w6 e6 => ?_)
   rw [hl]
   exact (S5.ext e6).aggSt 0 rfl rfl rfl rfl fun w6 S6 _ => ⟨rfl, 15, .inr ⟨hc, rfl⟩, S6⟩
  rw [beq_eq_false_iff_ne] at hc
  rw [if_neg hc] at hl
  refine rng (fun hc => ?_) (fun hc => ?_)
  ·rw [if_pos hc] at hl
   refine S4.lds 2 (mvM kind count arg) rfl (mwords_call (h.ext S4.upd) fun w5 e5 => ?_)
   rw [hl]
   exact (S4.ext e5).aggSt 0 rfl rfl rfl rfl fun w6 S6 _ => ⟨rfl, kind, .inl rfl, S6⟩
  rw [if_neg hc] at hl
  refine rng (fun hc => ?_) (fun hc => ?_)
  ·rw [if_pos hc] at hl
   refine S4.lds 2 (mvM kind count arg) rfl (mparas_call (h.ext S4.upd) fun w5 e5 => ?_)
   rw [hl]
   exact (S4.ext e5).aggSt 0 rfl rfl rfl rfl fun w6 S6 _ => ⟨rfl, kind, .inl rfl, S6⟩
  rw [if_neg hc] at hl
  rw [← hl]
  exact ⟨rfl, kind, .inl rfl, S4⟩
 rintro _ w5 ⟨rfl, kd, hkd, S5⟩
 refine sif_r (fun hz => ?_) (fun hz => ?_)
 ·have hz : l.2 ≠ 0 := by simpa using hz
  rw [if_pos hz] at hK
  exact sp_end (l := noP l.2) (o := spLO ((0, 0, 0), 0)) (i := 1) S5 rfl hK
 have hz : l.2 = 0 := by simpa using hz
 rw [if_neg (by omega)] at hK
 refine join_r (fun _ V => ¬ ((kind = 21 ∨ kind = 25) ∧ ofI A (passedP A s (decide (kind = 25)) (kOf count) : Int) < ofI A l.1.1) ∧ St (fun _ => False) w V [(b4, ldLO l), (b2, spLO ((0, 0, 0), 0)), (b1, mvMO kd count arg)]) ?_ ?_
 ·refine join_r (fun y V => y = (decide (kind = 21 ∨ kind = 25), ()) ∧ w5 = V) ?_ ?_
  ·refine S5.ld (off := 0) 2 rfl (x := kd) rfl (sif_r (fun h1 => ⟨tupb ?_, rfl⟩) (fun h1 => S5.ld (off := 0) 2 rfl (x := kd) rfl ⟨tupb ?_, rfl⟩))
   ·simp only [beq_iff_eq] at h1
    simp only [true_iff, decide_eq_true_eq]; omega
   ·simp only [beq_eq_false_iff_ne, ne_eq] at h1
    simp only [beq_iff_eq, decide_eq_true_eq]; omega
  rintro _ _ ⟨rfl, rfl⟩
  refine sif_r (fun hc => ?_) (fun hc => ?_)
  ·have hc := of_decide_eq_true hc
   have hkd : kd = kind := by omega
   subst hkd
   refine S5.ld (off := 0) 0 rfl (x := l.1.1) rfl (S5.lds 2 (mvM kd count arg) rfl (lineend_call (h.ext S5.upd) hsc fun w6 e6 => ?_))
   have S6 := S5.ext e6
   refine sif_r (fun hd => ?_) (fun hd => ?_)
   ·have hd := of_decide_eq_true hd
    rw [if_pos ⟨hc, hd⟩] at hK
    exact sp_end (l := (((s : Int), ((rowL A (ofI A (passedP A s (decide (kd = 25)) (kOf count) : Int))).to_ : Int), 0), 0)) (o := spLO ((0, 0, 0), 0)) (i := 1) S6 rfl hK
   ·have hd := of_decide_eq_false hd
    exact ⟨fun hh => hd hh.2, S6⟩
  ·have hc := of_decide_eq_false hc
   exact ⟨fun hh => hc hh.1, S5⟩
 rintro _ w6 ⟨hn, S6⟩
 rw [if_neg hn] at hK
 refine S6.ld (off := 0) 0 rfl (x := l.1.1) rfl (S6.ld (off := 1) 0 rfl (x := l.1.2.1) rfl (between_call (h.ext S6.upd) fun w7 e7 => ?_))
 exact sp_end (o := spLO ((0, 0, 0), 0)) (i := 1) (S6.ext e7) rfl hK
end
section
variable {w w' : World} {p : Nat} {A : List Int} {y : Cells.T c26} {c : Int} {l : List UInt8} {L : List (List LEd)} {al : List LAsk}
set_option maxHeartbeats 2000000 in
theorem cut_walk (h : LookX w y c l L al) {K : Bool → World → Prop} (hK : ∀ w', Ext w w' → K true w') :
  callT Tryz.prog 10 #[.agg (Cells.vals c26 y).toArray] (.one (.one .bool)) K w := by
 refine F10_calls (a0 := y) ?_
 unfold F10
 have hal := h.alen
 have hfew := h.asks.few
 refine (St.start w).newO fun b1 w1 S1 e1 => ?_
 have S1 : St (fun _ => False) w w1 [(b1, lkO y)] := S1
 refine S1.lds 0 y rfl (ltext_call (h := h.ext e1) (fun w2 e2 => law_r (.inl rfl) (hK w2 (S1.ext e2).upd)) fun p A w2 tx2 e2 => law_r (.inr ⟨p, rfl, ?_⟩) (hK w2 (S1.ext e2).upd))
 have S2 := S1.ext e2
 refine join_r (fun _ W => Ext w W) ?_ (fun _ W hW => hK W hW)
 refine sloop_r (fun x W => ∃ i : Nat, x = ((i : Int), ()) ∧ i ≤ al.length ∧ TxA W p A ∧ St (fun _ => False) w W [(b1, lkO y)]) (fun x _ => ((al.length : Int) - x.1).toNat) ⟨0, rfl, Nat.zero_le _, tx2, S2⟩ ?_
 rintro _ W ⟨i, rfl, hi, tx, SW⟩
 dsimp only
 refine SW.ld (off := 3) 0 rfl (x := y.2.2.2.1) rfl (sif_r (fun hc => ?_) (fun hc => SW.upd))
 simp only [decide_eq_true_eq] at hc
 obtain ⟨a, ha⟩ : ∃ a, al[i]? = some a := ⟨_, List.getElem?_eq_getElem (by omega)⟩
 have ewi : IntKind.wrap .i64 ((i : Int) + 1) = ((i + 1 : Nat) : Int) := by rw [wrap64 (by omega) (by omega)]; omega
 rw [ewi]
 refine join_r (fun _ V => Ext W V) ?_ (fun _ V xV => ⟨⟨i + 1, rfl, by omega, tx.ext xV, SW.ext xV⟩, by omega⟩)
 refine SW.ld (off := 3) 0 rfl (x := y.2.2.2.1) rfl (h.ask SW.upd ha fun q1 => ?_)
 refine (St.start W).newAgg rfl rfl rfl fun bA w4 T4 _ => ?_
 have T4 : St (fun _ => False) W w4 [(bA, askO a)] := T4
 refine T4.ld (off := 1) 0 rfl (x := a.at_) rfl (mclamp_call (tx.ext T4.upd) fun w5 e5 => ?_)
 have T5 := T4.ext e5
 obtain ⟨k1, k2, k3, k4, k5⟩ := cur_line A a.at_ false
 refine lline_call (tx.ext T5.upd) fun s w6 o6 e6 => ?_
 rw [k2] at o6
 rw [k2]
 have hA := tx.len
 obtain ⟨d1, d2⟩ := cut_is A a.at_ a.count 0 (s := clampP A a.at_ false) rfl rfl rfl
 obtain ⟨s0, hs0⟩ : ∃ s0, clampP A a.at_ false = s0 := ⟨_, rfl⟩
 rw [hs0] at k1 k2 k3 k4 k5 d1 d2 o6
 rw [hs0]
 obtain ⟨j, hj⟩ : ∃ j, nb A s0 = j := ⟨_, rfl⟩
 rw [hj] at k1 k2 k3 k4 d1 d2 o6
 rw [hj]
 have ok := row_ok k1
 have tn := ok.tn; have nl := ok.nl; have ft := ok.ft
 refine (T5.ext e6).newAgg rfl rfl rfl fun b20 w7 T7 e7 => ?_
 have T7 : St (fun _ => False) W w7 [(b20, lnO (rowL A j)), (bA, askO a)] := T7
 refine sif_false (T7.ld (off := 1) 0 rfl (x := ((rowL A j).to_ : Int)) rfl ((tx.ext T7.upd).atoms fun s2 w8 o8 e8 => ?_))
 have esub : ∀ f t : Nat, sub A (f : Int) (t : Int) = (A.drop f).take (t - f) := fun f t => by unfold sub; rw [Int.toNat_natCast, Int.toNat_natCast]
 rw [esub] at o8
 have hlen : ∀ f t : Nat, ((A.drop f).take (t - f)).length ≤ A.length := fun f t => by rw [List.length_take, List.length_drop]; omega
 have T8 := T7.ext e8
 have hl1 := hlen s0 (rowL A j).to_
 refine ccount_call o8.in (by omega) fun w9 e9 => ?_
 have ecnt : ((cuts ((A.drop s0).take ((rowL A j).to_ - s0))).length - 1 : Nat) = cntI A s0 (rowL A j).to_ := rfl
 rw [ecnt]
 obtain ⟨m, hm⟩ : ∃ m, cntI A s0 (rowL A j).to_ = m := ⟨_, rfl⟩
 rw [hm] at d1 d2
 rw [hm]
 have T9 := T8.ext e9
 refine T9.ld (off := 1) 1 rfl (x := a.at_) rfl (T9.ld (off := 4) 1 rfl (x := a.count) rfl (reach_call (kind := 2) (count := a.count) (arg := 0) (tx.ext T9.upd) fun w10 e10 => ?_))
 obtain ⟨lr, hlr⟩ : ∃ lr, reachP A a.at_ 2 a.count 0 = lr := ⟨_, rfl⟩
 rw [hlr] at d1 d2
 rw [hlr]
 refine (T9.ext e10).newAgg rfl rfl rfl fun b27 w11 T11 e11 => ?_
 have T11 : St (fun _ => False) W w11 [(b27, spLO lr), (b20, lnO (rowL A j)), (bA, askO a)] := T11
 rcases Nat.eq_zero_or_pos m with u | u
 ·have h80 := d1 u
  clear d1 d2 hlr
  subst h80
  refine join_r (fun x V => x = (false, ()) ∧ w11 = V) ?_ ?_
  ·refine rdB_neqb u4 ?_
   have e : (((spLT (noP 80)).2.1 == (0 : Int)) != decide ((m : Int) > (0 : Int))) = false := by rw [decide_eq_false (by omega)]; rfl
   rw [e]
   exact sif_false (sif_true ⟨rfl, rfl⟩)
  rintro _ _ ⟨rfl, rfl⟩
  exact sif_false (sif_true T11.upd)
 obtain ⟨t, g1, g2, g3, g4, g5⟩ := d2 u
 clear d1 d2
 subst g1
 refine join_r (fun x V => x = (false, ()) ∧ w11 = V) ?_ ?_
 ·refine rdB_neqb u4 ?_
  have e : (((spLT (((s0 : Int), (t : Int), 0), 0)).2.1 == (0 : Int)) != decide ((m : Int) > (0 : Int))) = false := by rw [decide_eq_true (by omega)]; rfl
  rw [e]
  exact sif_false (sif_false ⟨rfl, rfl⟩)
 rintro _ _ ⟨rfl, rfl⟩
 refine sif_false (sif_false ?_)
 refine join_r (fun x V => x = (false, ()) ∧ St (fun _ => False) W V [(b27, spLO (((s0 : Int), (t : Int), 0), 0)), (b20, lnO (rowL A j)), (bA, askO a)]) ?_ ?_
 ·refine T11.drew fun w12 T12 e12 _ => T12.ld (off := 0) 0 rfl (x := (s0 : Int)) rfl ?_
  rw [bne_self_eq_false]
  refine sif_false (T12.ld (off := 2) 0 rfl (x := 0) rfl (sif_false (T12.ld (off := 1) 0 rfl (x := (t : Int)) rfl (T12.ld (off := 1) 1 rfl (x := ((rowL A j).to_ : Int)) rfl ?_))))
  refine sif_r (fun hc => by simp only [decide_eq_true_eq, gt_iff_lt] at hc; omega) (fun _ => T12.ld (off := 1) 0 rfl (x := (t : Int)) rfl (sif_r (fun hc => by simp only [decide_eq_true_eq] at hc; omega) (fun _ => ?_)))
  refine T12.ld (off := 0) 0 rfl (x := (s0 : Int)) rfl (T12.ld (off := 1) 0 rfl (x := (t : Int)) rfl (T12.ld (off := 4) 2 rfl (x := a.count) rfl ((tx.ext T12.upd).atoms fun s3 w13 o13 e13 => ?_)))
  rw [esub] at o13
  have T13 := T12.ext e13
  have hl2 := hlen s0 t
  refine T13.keep (off := 4) 2 rfl (v := .int .i64 a.count) rfl (ccount_call o13.in (by omega) fun w14 e14 => ?_)
  have T14 := T13.ext e14
  refine T14.keep (off := 4) 2 rfl (v := .int .i64 a.count) rfl ⟨?_, T14⟩
  have ecnt2 : ((cuts ((A.drop s0).take (t - s0))).length - 1 : Nat) = cntI A s0 t := rfl
  rw [ecnt2, kif, g4]
  have : ((min (m : Int) (min (max a.count 1) 9999)) != (if min (max a.count 1) 9999 < (m : Int) then min (max a.count 1) 9999 else (m : Int))) = false := by rw [bne_eq_false_iff_eq]; split <;> omega
  rw [this]
 rintro _ w12 ⟨rfl, T12⟩
 refine sif_false (T12.ld (off := 1) 0 rfl (x := (t : Int)) rfl (lhome_call (tx.ext T12.upd) g5 fun w13 e13 => sif_false (T12.ext e13).upd))
end
end Go.Proofs.YtolhlldgnfbemaaGreat
namespace Go.Proofs.YtolhlldgnfbemaaGreat
open Go Go.Vx Go.ChangeShapes Go.WideShapes Go.RowKit
set_option maxRecDepth 100000 in
theorem motionCut_lifted (os : Os) (started : os.Started) (H : Type) (enc : TypeId × Value → H) (F : Stop.Interp) :
  ReturnsInHanded {} Tryz.checked os 10 .any ((Rows.OpenSpec.upto Rows.motionCutSpec).pre6 enc Tryz.prog Tryz.f10 Rows.motionCutUptoRow.domain false) (((Rows.OpenSpec.upto Rows.motionCutSpec).at F).post enc Tryz.prog Tryz.f10 false true false false) := by
 refine returnsInHanded_of_cond_sized (C := Tryz.checked) (s := Rows.OpenSpec.upto Rows.motionCutSpec) (k := Rows.uptoSmall) rfl Tryz.own started (by kernel_rfl) Tryz.func10
  (OpenSpec.witness (enc := enc) (C := Tryz.checked) (s := Rows.OpenSpec.upto Rows.motionCutSpec) (k := Rows.uptoSmall) rfl false ⟨#[], #[.agg #[.int .i64 0, .slice none 0 0, .slice none 0 0, .slice none 0 0]], []⟩ 8 (by kernel_rfl) (by kernel_rfl) (by kernel_rfl)
   (x := ([.agg [.lit (.int .i64 0), .nil, .nil, .nil]], [], [])) (by kernel_rfl) rfl (by kernel_rfl)) ?_
 intro W base args ds gs before hval0 hW _ hk hwt0 _
 have hval : ∀ (j : Nat) t v, Tryz.f10.params[j]? = some t → args[j]? = some v → Value.okWide Tryz.prog W .any base t v := hval0
 have hwt : (DataW.weightsEach Tryz.prog (Tryz.f10.params.toList ++ []) (ds ++ gs)).all (· ≤ reachBytes) = true := hwt0
 have hW' := hW
 obtain ⟨p, q, hA0, hV, rfl, hfz, hnd⟩ := hW
 have hA : DataW.TrodAll enc Tryz.prog W 0 (fun _ => true) true Tryz.f10.params.toList args.toList ds p := hA0
 clear hA0 hval0 hwt0
 rw [Tryz.params10] at hA hval hwt
 obtain ⟨rfl, rfl⟩ := trodVars_none hV
 obtain ⟨hn1, hn2, hT⟩ := trodAll_get hA
 obtain ⟨v0, hv⟩ := list_1 args.toList hn1
 obtain rfl : args = #[v0] := by cases args; simp_all
 obtain ⟨d0, rfl⟩ := list_1 ds hn2
 have hbulk : bulk d0 ≤ 1048576 := by
  have h : Rows.uptoBulkAll ([d0] ++ []) ≤ 1048576 := of_decide_eq_true hk
  simp only [List.append_nil, Rows.uptoBulkAll] at h
  show Rows.uptoBulk d0 ≤ _
  omega
 obtain ⟨p0, q0⟩ := hT 0 26 v0 d0 rfl rfl rfl
 obtain ⟨y, c, l, L, al, rfl, hL⟩ := arg_look (hval 0 26 v0 rfl rfl) q0 (weigh hwt 0 rfl rfl) hbulk
 have walk := cut_walk hL (K := fun r w' => r = true ∧ Ext W w') fun w' e => ⟨rfl, e⟩
 refine walk.mono fun e W' ⟨x, he, hx, hext⟩ => ⟨.bool true, ?_, ?_⟩
 ·subst hx; exact he
 ·exact post_same (s := Rows.motionCutSpec) hW' rfl rfl u4 rfl Tryz.laidOut (fun t ht => by
   rw [Tryz.params10] at ht
   have ht : t ∈ [26] := ht
   simp only [List.mem_cons, List.not_mem_nil, or_false] at ht
   exact recs ht) hext
theorem motionCut_holds : Rows.MotionCutUptoSaid :=
 OpenClaim.holds_of_cond 10 Tryz.f10 rfl rfl rfl rfl rfl rfl rfl ⟨rfl, rfl, rfl, rfl, rfl⟩ rfl rfl rfl rfl rfl (by kernel_rfl) Tryz.func10 (by kernel_rfl)
  (of_decide_eq_true (by kernel_rfl)) (by unfold Func.isWrapper; rw [if_neg (by decide +kernel)]; exact ⟨rfl, rfl⟩)
  (fun os started H enc _ F => motionCut_lifted os started H enc F)
end Go.Proofs.YtolhlldgnfbemaaGreat
