/- YtabcpghhfeplaaaGreatPa6: parts of the proof, put together by program. -/
import Derived.Test.YtabcpghhfeplaaaGreatPa5
set_option linter.unusedVariables false
set_option linter.unusedSimpArgs false
set_option linter.unusedSectionVars false
set_option linter.unusedSimpArgs false
set_option linter.unusedVariables false
set_option maxRecDepth 100000
set_option linter.unusedVariables false
namespace Go.Proofs.YtabcpghhfeplaaaGreat
open Go Go.Vx
noncomputable def F3 (a0 : (Int × Sl × Unit)) (a1 : Int) (a2 : Int) (a3 : Int) (K : Bool → World → Prop) : World → Prop :=
 newO (.cells #[(.int .i64 a0.1), (.slice a0.2.1.a a0.2.1.len a0.2.1.cap)] 24) fun b1 =>
 lds c24 (at0 b1) fun (x2 : (Int × Sl × Unit)) =>
 callT Tryz.prog 16 #[(.agg (Cells.vals c24 x2).toArray)] (.tup [(.agg c28), (.one .bool)]) fun (x3 : ((Option Addr × Sl × Unit) × Bool × Unit)) =>
 newO (.cells #[(.pointer none), (.slice none 0 0)] 28) fun b4 =>
 aggSt (at0 b4) (.agg (Cells.vals c28 x3.1).toArray) 2 <|
 join (S := Bool × Unit) (fun J5 =>
 sif (!x3.2.1) (
 J5 (true, ())) (
 callT Tryz.prog 17 #[(.int .i64 (3 : Int))] (.one (.one .bool)) fun (x7 : Bool) =>
 J5 ((!x7), ()))) fun (s6 : Bool × Unit) =>
 sif s6.1 (
 K false) (
 newO (.cells #[(.int .i64 (40 : Int)), (.int .i64 (91 : Int)), (.int .i64 (123 : Int)), (.int .i64 (60 : Int))] 3) fun b8 =>
 callT Tryz.prog 18 #[(.int .i64 a2), (.int .i64 (3 : Int))] (.one (.one (.int .i64))) fun (x9 : Int) =>
 ix (some (at0 b8)) 4 x9 fun p10 =>
 ld (.int .i64) (p10.add (scaled (Int.toNat x9) 1)) fun (x11 : Int) =>
 callT Tryz.prog 18 #[(.int .i64 a3), (.int .i64 (3 : Int))] (.one (.one (.int .i64))) fun (x12 : Int) =>
 ld (.sl) (⟨b4, 1, none⟩ : Addr) fun (x13 : Sl) =>
 callT Tryz.prog 18 #[(.int .i64 a1), (.int .i64 ((x13.len : Nat) : Int))] (.one (.one (.int .i64))) fun (x14 : Int) =>
 ld (.ptr) (at0 b4) fun (x15 : Option Addr) =>
 callT Tryz.prog 19 #[(.pointer x15), (.int .i64 x14), (.agg #[(.int .i64 (68 : Int)), (.int .i64 (IntKind.wrap .i64 ((2 : Int) + x12))), (.int .i64 x11)])] (.tup [(.agg c34), (.one (.int .i64))]) fun (x16 : ((Int × Int × Int × Unit) × Int × Unit)) =>
 newO (.cells #[(.int .i64 (0 : Int)), (.int .i64 (0 : Int)), (.int .i64 (0 : Int))] 34) fun b17 =>
 aggSt (at0 b17) (.agg (Cells.vals c34 x16.1).toArray) 3 <|
 sif (x16.2.1 != (0 : Int)) (
 K (x16.2.1 == (90 : Int))) (
 ld (.ptr) (at0 b4) fun (x18 : Option Addr) =>
 callT Tryz.prog 19 #[(.pointer x18), (.int .i64 x14), (.agg #[(.int .i64 (68 : Int)), (.int .i64 (IntKind.wrap .i64 ((IntKind.wrap .i64 ((2 : Int) + x12)) - (1 : Int)))), (.int .i64 x11)])] (.tup [(.agg c34), (.one (.int .i64))]) fun (x19 : ((Int × Int × Int × Unit) × Int × Unit)) =>
 newO (.cells #[(.int .i64 (0 : Int)), (.int .i64 (0 : Int)), (.int .i64 (0 : Int))] 34) fun b20 =>
 aggSt (at0 b20) (.agg (Cells.vals c34 x19.1).toArray) 3 <|
 drew <|
 sif (x19.2.1 == (0 : Int)) (
 ld (.int .i64) (at0 b17) fun (x21 : Int) =>
 ld (.int .i64) (at0 b20) fun (x22 : Int) =>
 sif (decide (x21 < x22)) (
 ld (.int .i64) (⟨b20, 1, none⟩ : Addr) fun (x23 : Int) =>
 ld (.int .i64) (⟨b17, 1, none⟩ : Addr) fun (x24 : Int) =>
 sif (decide (x23 < x24)) (
 ld (.int .i64) (at0 b20) fun (x25 : Int) =>
 sif (decide (x25 ≤ x14)) (
 ld (.int .i64) (⟨b20, 1, none⟩ : Addr) fun (x26 : Int) =>
 sif (decide (x14 < x26)) (
 ld (.int .i64) (⟨b17, 1, none⟩ : Addr) fun (x27 : Int) =>
 ld (.sl) (⟨b4, 1, none⟩ : Addr) fun (x28 : Sl) =>
 sif (decide (x27 ≤ ((x28.len : Nat) : Int))) (
 ld (.int .i64) (at0 b17) fun (x29 : Int) =>
 sif (decide (x29 ≥ (0 : Int))) (
 ld (.sl) (⟨b4, 1, none⟩ : Addr) fun (x30 : Sl) =>
 ld (.int .i64) (at0 b17) fun (x31 : Int) =>
 ix x30.a x30.len x31 fun p32 =>
 ld (.int .i64) (p32.add (scaled (Int.toNat x31) 1)) fun (x33 : Int) =>
 sif (x33 == x11) (
 ld (.sl) (⟨b4, 1, none⟩ : Addr) fun (x34 : Sl) =>
 ld (.int .i64) (at0 b20) fun (x35 : Int) =>
 ix x34.a x34.len x35 fun p36 =>
 ld (.int .i64) (p36.add (scaled (Int.toNat x35) 1)) fun (x37 : Int) =>
 sif (x37 == x11) (
 ld (.sl) (⟨b4, 1, none⟩ : Addr) fun (x38 : Sl) =>
 ld (.int .i64) (⟨b20, 1, none⟩ : Addr) fun (x39 : Int) =>
 ix x38.a x38.len (IntKind.wrap .i64 (x39 - (1 : Int))) fun p40 =>
 ld (.int .i64) (p40.add (scaled (Int.toNat (IntKind.wrap .i64 (x39 - (1 : Int)))) 1)) fun (x41 : Int) =>
 ld (.sl) (⟨b4, 1, none⟩ : Addr) fun (x42 : Sl) =>
 ld (.int .i64) (⟨b17, 1, none⟩ : Addr) fun (x43 : Int) =>
 ix x42.a x42.len (IntKind.wrap .i64 (x43 - (1 : Int))) fun p44 =>
 ld (.int .i64) (p44.add (scaled (Int.toNat (IntKind.wrap .i64 (x43 - (1 : Int)))) 1)) fun (x45 : Int) =>
 K (x41 == x45)) (
 K false)) (
 K false)) (
 K false)) (
 K false)) (
 K false)) (
 K false)) (
 K false)) (
 K false)) (
 K false)))
noncomputable def h3 : Hint := (.seq none (.region [] (.ops 2 .done)) (.seq none (.region [] (.ops 8 .done)) (.seq none (.seq (some (132120576, [(26, (.one .bool))])) (.region [] (.ops 3 (.split 23 (.skips 2 (.ops 1 .done)) (.ops 3 .done)))) (.cond none (.seq none (.region [] (.ops 1 .done)) .leaf) .leaf)) (.seq none (.region [] (.ops 2 .done)) (.seq none (.region [] (.ops 6 .done)) (.seq none (.region [] (.ops 4 .done)) (.seq none (.region [] (.ops 6 .done)) (.seq none (.region [] (.ops 13 .done)) (.seq none (.seq none (.region [] (.ops 2 .done)) (.cond none (.seq none (.region [] (.ops 3 .done)) .leaf) .leaf)) (.seq none (.region [] (.ops 14 .done)) (.seq none (.region [0, 1, 2, 3, 4, 5, 6, 7, 8, 9, 10, 11, 12, 13, 14, 15, 16, 17, 18, 19, 20, 21, 22, 23, 24, 25, 26, 27, 28, 29, 30, 31, 32, 33, 34, 35, 36, 37, 38, 39, 40, 41, 42, 43, 44, 45, 46, 47, 48, 49, 50, 51, 52, 53, 54, 55, 56, 57, 58, 59, 60, 61, 62, 63, 64, 65, 66, 67, 68, 69, 70, 71, 72, 73, 74, 75, 76, 77, 78] (.ops 3 (.split 68 (.ops 7 (.split 75 (.ops 7 (.split 82 (.ops 6 (.split 88 (.ops 6 (.split 94 (.ops 8 (.split 102 (.ops 5 (.split 107 (.ops 10 (.split 117 (.ops 10 (.split 127 (.ops 17 .done) (.skips 15 (.ops 2 .done)))) (.skips 8 (.ops 2 (.skips 15 (.ops 2 .done)))))) (.skips 8 (.ops 2 (.skips 8 (.ops 2 (.skips 15 (.ops 2 .done)))))))) (.skips 3 (.ops 2 (.skips 8 (.ops 2 (.skips 8 (.ops 2 (.skips 15 (.ops 2 .done)))))))))) (.skips 6 (.ops 2 (.skips 3 (.ops 2 (.skips 8 (.ops 2 (.skips 8 (.ops 2 (.skips 15 (.ops 2 .done)))))))))))) (.skips 4 (.ops 2 (.skips 6 (.ops 2 (.skips 3 (.ops 2 (.skips 8 (.ops 2 (.skips 8 (.ops 2 (.skips 15 (.ops 2 .done)))))))))))))) (.skips 4 (.ops 2 (.skips 4 (.ops 2 (.skips 6 (.ops 2 (.skips 3 (.ops 2 (.skips 8 (.ops 2 (.skips 8 (.ops 2 (.skips 15 (.ops 2 .done)))))))))))))))) (.skips 5 (.ops 2 (.skips 4 (.ops 2 (.skips 4 (.ops 2 (.skips 6 (.ops 2 (.skips 3 (.ops 2 (.skips 8 (.ops 2 (.skips 8 (.ops 2 (.skips 15 (.ops 2 .done)))))))))))))))))) (.skips 5 (.ops 2 (.skips 5 (.ops 2 (.skips 4 (.ops 2 (.skips 4 (.ops 2 (.skips 6 (.ops 2 (.skips 3 (.ops 2 (.skips 8 (.ops 2 (.skips 8 (.ops 2 (.skips 15 (.ops 2 .done))))))))))))))))))))) .leaf)))))))))))
noncomputable def F4 (a0 : (Int × Sl × Unit)) (a1 : Sl) (K : Bool → World → Prop) : World → Prop :=
 newO (.cells #[(.int .i64 a0.1), (.slice a0.2.1.a a0.2.1.len a0.2.1.cap)] 24) fun b1 =>
 lds c24 (at0 b1) fun (x2 : (Int × Sl × Unit)) =>
 callT Tryz.prog 16 #[(.agg (Cells.vals c24 x2).toArray)] (.tup [(.agg c28), (.one .bool)]) fun (x3 : ((Option Addr × Sl × Unit) × Bool × Unit)) =>
 newO (.cells #[(.pointer none), (.slice none 0 0)] 28) fun b4 =>
 aggSt (at0 b4) (.agg (Cells.vals c28 x3.1).toArray) 2 <|
 join (S := Bool × Unit) (fun J5 =>
 sif (!x3.2.1) (
 J5 (true, ())) (
 callT Tryz.prog 17 #[(.int .i64 (5 : Int))] (.one (.one .bool)) fun (x7 : Bool) =>
 J5 ((!x7), ()))) fun (s6 : Bool × Unit) =>
 sif s6.1 (
 K false) (
 join (S := Unit) (fun J8 =>
 sloop (S := Int × Unit) (fun (s10 : Int × Unit) again11 =>
 join (S := Bool × Unit) (fun J12 =>
 sif (decide (s10.1 < ((a1.len : Nat) : Int))) (
 J12 ((decide (s10.1 < (20 : Int))), ())) (
 J12 (false, ()))) fun (s13 : Bool × Unit) =>
 sif s13.1 (
 ix a1.a a1.len s10.1 fun p14 =>
 lds c43 (p14.add (scaled (Int.toNat s10.1) 7)) fun (x15 : (Int × Int × Int × Int × Int × Int × Sl × Unit)) =>
 newO (.cells #[(.int .i64 (0 : Int)), (.int .i64 (0 : Int)), (.int .i64 (0 : Int)), (.int .i64 (0 : Int)), (.int .i64 (0 : Int)), (.int .i64 (0 : Int)), (.slice none 0 0)] 43) fun b16 =>
 aggSt (at0 b16) (.agg (Cells.vals c43 x15).toArray) 7 <|
 join (S := Addr × Int × Unit) (fun J17 =>
 drew <|
 ld (.ptr) (at0 b4) fun (x19 : Option Addr) =>
 ld (.int .i64) (⟨b16, 2, none⟩ : Addr) fun (x20 : Int) =>
 ld (.int .i64) (⟨b16, 3, none⟩ : Addr) fun (x21 : Int) =>
 ld (.int .i64) (⟨b16, 5, none⟩ : Addr) fun (x22 : Int) =>
 both (
 newO (.cells #[(.int .i64 (0 : Int)), (.int .i64 (0 : Int)), (.int .i64 (0 : Int))] 34) fun b23 =>
 keep (fun w => w.cell? (⟨b16, 5, none⟩ : Addr) = some (Cell.val (.int .i64) x22)) <|
 keep (fun w => w.cell? (⟨b16, 3, none⟩ : Addr) = some (Cell.val (.int .i64) x21)) <|
 keep (fun w => w.cell? (⟨b16, 2, none⟩ : Addr) = some (Cell.val (.int .i64) x20)) <|
 keep (fun w => w.cell? (at0 b4) = some (Cell.val (.ptr) x19)) <|
 callT Tryz.prog 18 #[(.int .i64 x21), (.int .i64 (4 : Int))] (.one (.one (.int .i64))) fun (x24 : Int) =>
 keep (fun w => w.cell? (⟨b16, 5, none⟩ : Addr) = some (Cell.val (.int .i64) x22)) <|
 keep (fun w => w.cell? (⟨b16, 2, none⟩ : Addr) = some (Cell.val (.int .i64) x20)) <|
 keep (fun w => w.cell? (at0 b4) = some (Cell.val (.ptr) x19)) <|
 callT Tryz.prog 20 #[(.pointer x19), (.int .i64 x20), (.agg #[(.int .i64 (IntKind.wrap .i64 ((61 : Int) + (IntKind.wrap .i64 ((2 : Int) * x24))))), (.int .i64 (1 : Int)), (.int .i64 x22)])] (.tup [(.agg c34), (.one (.int .i64))]) fun (x25 : ((Int × Int × Int × Unit) × Int × Unit)) =>
 aggSt (at0 b23) (.agg (Cells.vals c34 x25.1).toArray) 3 <|
 J17 ((at0 b23), x25.2.1, ())) <|
 callT Tryz.prog 18 #[(.int .i64 x21), (.int .i64 (4 : Int))] (.one (.one (.int .i64))) fun (x26 : Int) =>
 keep (fun w => w.cell? (⟨b16, 5, none⟩ : Addr) = some (Cell.val (.int .i64) x22)) <|
 keep (fun w => w.cell? (⟨b16, 2, none⟩ : Addr) = some (Cell.val (.int .i64) x20)) <|
 keep (fun w => w.cell? (at0 b4) = some (Cell.val (.ptr) x19)) <|
 both (
 newO (.cells #[(.int .i64 (0 : Int)), (.int .i64 (0 : Int)), (.int .i64 (0 : Int))] 34) fun b27 =>
 keep (fun w => w.cell? (⟨b16, 5, none⟩ : Addr) = some (Cell.val (.int .i64) x22)) <|
 keep (fun w => w.cell? (⟨b16, 3, none⟩ : Addr) = some (Cell.val (.int .i64) x21)) <|
 keep (fun w => w.cell? (⟨b16, 2, none⟩ : Addr) = some (Cell.val (.int .i64) x20)) <|
 keep (fun w => w.cell? (at0 b4) = some (Cell.val (.ptr) x19)) <|
 callT Tryz.prog 20 #[(.pointer x19), (.int .i64 x20), (.agg #[(.int .i64 (IntKind.wrap .i64 ((61 : Int) + (IntKind.wrap .i64 ((2 : Int) * x26))))), (.int .i64 (1 : Int)), (.int .i64 x22)])] (.tup [(.agg c34), (.one (.int .i64))]) fun (x28 : ((Int × Int × Int × Unit) × Int × Unit)) =>
 aggSt (at0 b27) (.agg (Cells.vals c34 x28.1).toArray) 3 <|
 J17 ((at0 b27), x28.2.1, ())) <|
 callT Tryz.prog 20 #[(.pointer x19), (.int .i64 x20), (.agg #[(.int .i64 (IntKind.wrap .i64 ((61 : Int) + (IntKind.wrap .i64 ((2 : Int) * x26))))), (.int .i64 (1 : Int)), (.int .i64 x22)])] (.tup [(.agg c34), (.one (.int .i64))]) fun (x29 : ((Int × Int × Int × Unit) × Int × Unit)) =>
 both (
 newO (.cells #[(.int .i64 (0 : Int)), (.int .i64 (0 : Int)), (.int .i64 (0 : Int))] 34) fun b30 =>
 keep (fun w => w.cell? (⟨b16, 5, none⟩ : Addr) = some (Cell.val (.int .i64) x22)) <|
 keep (fun w => w.cell? (⟨b16, 3, none⟩ : Addr) = some (Cell.val (.int .i64) x21)) <|
 keep (fun w => w.cell? (⟨b16, 2, none⟩ : Addr) = some (Cell.val (.int .i64) x20)) <|
 keep (fun w => w.cell? (at0 b4) = some (Cell.val (.ptr) x19)) <|
 aggSt (at0 b30) (.agg (Cells.vals c34 x29.1).toArray) 3 <|
 J17 ((at0 b30), x29.2.1, ())) <|
 nothing) fun (s18 : Addr × Int × Unit) =>
 join (S := Addr × Int × Unit) (fun J31 =>
 drew <|
 ld (.ptr) (at0 b4) fun (x33 : Option Addr) =>
 ld (.int .i64) (⟨b16, 2, none⟩ : Addr) fun (x34 : Int) =>
 ld (.int .i64) (⟨b16, 3, none⟩ : Addr) fun (x35 : Int) =>
 ld (.int .i64) (⟨b16, 5, none⟩ : Addr) fun (x36 : Int) =>
 both (
 newO (.cells #[(.int .i64 (0 : Int)), (.int .i64 (0 : Int)), (.int .i64 (0 : Int))] 34) fun b37 =>
 keep (fun w => w.cell? (⟨b16, 5, none⟩ : Addr) = some (Cell.val (.int .i64) x36)) <|
 keep (fun w => w.cell? (⟨b16, 3, none⟩ : Addr) = some (Cell.val (.int .i64) x35)) <|
 keep (fun w => w.cell? (⟨b16, 2, none⟩ : Addr) = some (Cell.val (.int .i64) x34)) <|
 keep (fun w => w.cell? (at0 b4) = some (Cell.val (.ptr) x33)) <|
 callT Tryz.prog 18 #[(.int .i64 x35), (.int .i64 (4 : Int))] (.one (.one (.int .i64))) fun (x38 : Int) =>
 keep (fun w => w.cell? (⟨b16, 5, none⟩ : Addr) = some (Cell.val (.int .i64) x36)) <|
 keep (fun w => w.cell? (⟨b16, 2, none⟩ : Addr) = some (Cell.val (.int .i64) x34)) <|
 keep (fun w => w.cell? (at0 b4) = some (Cell.val (.ptr) x33)) <|
 callT Tryz.prog 20 #[(.pointer x33), (.int .i64 x34), (.agg #[(.int .i64 (IntKind.wrap .i64 ((62 : Int) + (IntKind.wrap .i64 ((2 : Int) * x38))))), (.int .i64 (1 : Int)), (.int .i64 x36)])] (.tup [(.agg c34), (.one (.int .i64))]) fun (x39 : ((Int × Int × Int × Unit) × Int × Unit)) =>
 aggSt (at0 b37) (.agg (Cells.vals c34 x39.1).toArray) 3 <|
 J31 ((at0 b37), x39.2.1, ())) <|
 callT Tryz.prog 18 #[(.int .i64 x35), (.int .i64 (4 : Int))] (.one (.one (.int .i64))) fun (x40 : Int) =>
 keep (fun w => w.cell? (⟨b16, 5, none⟩ : Addr) = some (Cell.val (.int .i64) x36)) <|
 keep (fun w => w.cell? (⟨b16, 2, none⟩ : Addr) = some (Cell.val (.int .i64) x34)) <|
 keep (fun w => w.cell? (at0 b4) = some (Cell.val (.ptr) x33)) <|
 both (
 newO (.cells #[(.int .i64 (0 : Int)), (.int .i64 (0 : Int)), (.int .i64 (0 : Int))] 34) fun b41 =>
 keep (fun w => w.cell? (⟨b16, 5, none⟩ : Addr) = some (Cell.val (.int .i64) x36)) <|
 keep (fun w => w.cell? (⟨b16, 3, none⟩ : Addr) = some (Cell.val (.int .i64) x35)) <|
 keep (fun w => w.cell? (⟨b16, 2, none⟩ : Addr) = some (Cell.val (.int .i64) x34)) <|
 keep (fun w => w.cell? (at0 b4) = some (Cell.val (.ptr) x33)) <|
 callT Tryz.prog 20 #[(.pointer x33), (.int .i64 x34), (.agg #[(.int .i64 (IntKind.wrap .i64 ((62 : Int) + (IntKind.wrap .i64 ((2 : Int) * x40))))), (.int .i64 (1 : Int)), (.int .i64 x36)])] (.tup [(.agg c34), (.one (.int .i64))]) fun (x42 : ((Int × Int × Int × Unit) × Int × Unit)) =>
 aggSt (at0 b41) (.agg (Cells.vals c34 x42.1).toArray) 3 <|
 J31 ((at0 b41), x42.2.1, ())) <|
 callT Tryz.prog 20 #[(.pointer x33), (.int .i64 x34), (.agg #[(.int .i64 (IntKind.wrap .i64 ((62 : Int) + (IntKind.wrap .i64 ((2 : Int) * x40))))), (.int .i64 (1 : Int)), (.int .i64 x36)])] (.tup [(.agg c34), (.one (.int .i64))]) fun (x43 : ((Int × Int × Int × Unit) × Int × Unit)) =>
 both (
 newO (.cells #[(.int .i64 (0 : Int)), (.int .i64 (0 : Int)), (.int .i64 (0 : Int))] 34) fun b44 =>
 keep (fun w => w.cell? (⟨b16, 5, none⟩ : Addr) = some (Cell.val (.int .i64) x36)) <|
 keep (fun w => w.cell? (⟨b16, 3, none⟩ : Addr) = some (Cell.val (.int .i64) x35)) <|
 keep (fun w => w.cell? (⟨b16, 2, none⟩ : Addr) = some (Cell.val (.int .i64) x34)) <|
 keep (fun w => w.cell? (at0 b4) = some (Cell.val (.ptr) x33)) <|
 aggSt (at0 b44) (.agg (Cells.vals c34 x43.1).toArray) 3 <|
 J31 ((at0 b44), x43.2.1, ())) <|
 nothing) fun (s32 : Addr × Int × Unit) =>
 join (S := Bool × Unit) (fun J45 =>
 lds c34 s18.1 fun (x47 : (Int × Int × Int × Unit)) =>
 callT Tryz.prog 21 #[(.pointer (some (at0 b4))), (.agg (Cells.vals c34 x47).toArray)] (.one (.one .bool)) fun (x48 : Bool) =>
 sif (!x48) (
 J45 (true, ())) (
 lds c34 s32.1 fun (x49 : (Int × Int × Int × Unit)) =>
 callT Tryz.prog 21 #[(.pointer (some (at0 b4))), (.agg (Cells.vals c34 x49).toArray)] (.one (.one .bool)) fun (x50 : Bool) =>
 sif (!x50) (
 J45 (true, ())) (
 sif (s18.2.1 != (0 : Int)) (
 ld (.int .i64) (s18.1.add 1) fun (x51 : Int) =>
 sif (x51 != (0 : Int)) (
 J45 (true, ())) (
 ld (.int .i64) (s18.1.add 2) fun (x52 : Int) =>
 sif (x52 != (0 : Int)) (
 J45 (true, ())) (
 sif (s32.2.1 != (0 : Int)) (
 ld (.int .i64) (s32.1.add 1) fun (x53 : Int) =>
 sif (x53 != (0 : Int)) (
 J45 (true, ())) (
 ld (.int .i64) (s32.1.add 2) fun (x54 : Int) =>
 J45 ((x54 != (0 : Int)), ()))) (
 J45 (false, ()))))) (
 sif (s32.2.1 != (0 : Int)) (
 ld (.int .i64) (s32.1.add 1) fun (x55 : Int) =>
 sif (x55 != (0 : Int)) (
 J45 (true, ())) (
 ld (.int .i64) (s32.1.add 2) fun (x56 : Int) =>
 J45 ((x56 != (0 : Int)), ()))) (
 J45 (false, ())))))) fun (s46 : Bool × Unit) =>
 sif s46.1 (
 K false) (
 join (S := Bool × Unit) (fun J57 =>
 sif (s32.2.1 == (0 : Int)) (
 sif (s18.2.1 != (0 : Int)) (
 J57 (true, ())) (
 ld (.int .i64) s18.1 fun (x59 : Int) =>
 ld (.int .i64) s32.1 fun (x60 : Int) =>
 sif (decide (x59 < x60)) (
 J57 (true, ())) (
 ld (.int .i64) (s18.1.add 1) fun (x61 : Int) =>
 ld (.int .i64) (s32.1.add 1) fun (x62 : Int) =>
 J57 ((decide (x61 > x62)), ())))) (
 J57 (false, ()))) fun (s58 : Bool × Unit) =>
 sif s58.1 (
 K false) (
 ld (.ptr) (at0 b4) fun (x63 : Option Addr) =>
 ld (.int .i64) (⟨b16, 2, none⟩ : Addr) fun (x64 : Int) =>
 ld (.int .i64) (⟨b16, 3, none⟩ : Addr) fun (x65 : Int) =>
 ld (.int .i64) (⟨b16, 4, none⟩ : Addr) fun (x66 : Int) =>
 ld (.int .i64) (⟨b16, 5, none⟩ : Addr) fun (x67 : Int) =>
 callT Tryz.prog 20 #[(.pointer x63), (.int .i64 x64), (.agg #[(.int .i64 x65), (.int .i64 x66), (.int .i64 x67)])] (.tup [(.agg c34), (.one (.int .i64))]) fun (x68 : ((Int × Int × Int × Unit) × Int × Unit)) =>
 newO (.cells #[(.int .i64 (0 : Int)), (.int .i64 (0 : Int)), (.int .i64 (0 : Int))] 34) fun b69 =>
 aggSt (at0 b69) (.agg (Cells.vals c34 x68.1).toArray) 3 <|
 join (S := Bool × Unit) (fun J70 =>
 drew <|
 lds c34 (at0 b69) fun (x72 : (Int × Int × Int × Unit)) =>
 callT Tryz.prog 21 #[(.pointer (some (at0 b4))), (.agg (Cells.vals c34 x72).toArray)] (.one (.one .bool)) fun (x73 : Bool) =>
 sif (!x73) (
 J70 (true, ())) (
 sif (x68.2.1 != (0 : Int)) (
 ld (.int .i64) (⟨b69, 1, none⟩ : Addr) fun (x74 : Int) =>
 sif (x74 != (0 : Int)) (
 J70 (true, ())) (
 ld (.int .i64) (⟨b69, 2, none⟩ : Addr) fun (x75 : Int) =>
 sif (x75 != (0 : Int)) (
 J70 (true, ())) (
 ld (.ptr) (at0 b4) fun (x76 : Option Addr) =>
 ld (.sl) (⟨b4, 1, none⟩ : Addr) fun (x77 : Sl) =>
 ld (.sl) (⟨b4, 1, none⟩ : Addr) fun (x78 : Sl) =>
 callT Tryz.prog 23 #[(.pointer x76), (.int .i64 (0 : Int)), (.int .i64 (IntKind.wrap .i64 (((x77.len : Nat) : Int) + (1 : Int))))] (.one (.one .sl)) fun (x79 : Sl) =>
 keep (fun w => w.cell? (⟨b4, 1, none⟩ : Addr) = some (Cell.val (.sl) x78)) <|
 callT Tryz.prog 22 #[(.slice x79.a x79.len x79.cap), (.slice x78.a x78.len x78.cap)] (.one (.one .bool)) fun (x80 : Bool) =>
 J70 ((!x80), ())))) (
 ld (.ptr) (at0 b4) fun (x81 : Option Addr) =>
 ld (.sl) (⟨b4, 1, none⟩ : Addr) fun (x82 : Sl) =>
 ld (.sl) (⟨b4, 1, none⟩ : Addr) fun (x83 : Sl) =>
 callT Tryz.prog 23 #[(.pointer x81), (.int .i64 (0 : Int)), (.int .i64 (IntKind.wrap .i64 (((x82.len : Nat) : Int) + (1 : Int))))] (.one (.one .sl)) fun (x84 : Sl) =>
 keep (fun w => w.cell? (⟨b4, 1, none⟩ : Addr) = some (Cell.val (.sl) x83)) <|
 callT Tryz.prog 22 #[(.slice x84.a x84.len x84.cap), (.slice x83.a x83.len x83.cap)] (.one (.one .bool)) fun (x85 : Bool) =>
 J70 ((!x85), ())))) fun (s71 : Bool × Unit) =>
 sif s71.1 (
 K false) (
 again11 ((IntKind.wrap .i64 (s10.1 + (1 : Int))), ()))))) (
 J8 ())) ((0 : Int), ())) fun (s9 : Unit) =>
 K true)
noncomputable def h4 : Hint := (.seq none (.region [] (.ops 2 .done)) (.seq none (.region [] (.ops 8 .done)) (.seq none (.seq (some (66060288, [(25, (.one .bool))])) (.region [] (.ops 3 (.split 22 (.skips 2 (.ops 1 .done)) (.ops 3 .done)))) (.cond none (.seq none (.region [] (.ops 1 .done)) .leaf) .leaf)) (.seq (some (11972621413014756705924586149611790497021399324983184, [])) (.seq none (.region [] (.ops 1 .done)) (.block (.loop 11972621413014756705924586149611790497021399324983184 [(7, (.one (.int .i64)))] (.seq none (.seq (some (17112760320, [(33, (.one .bool))])) (.region [] (.ops 5 (.split 30 (.ops 3 .done) (.skips 2 (.ops 1 .done))))) (.cond none .leaf .leaf)) (.seq none (.block (.seq none (.region [] (.ops 6 .done)) (.seq (some (72056494526301696, [(9, (.one .addr)), (10, (.one (.int .i64)))])) (.region [0, 1, 2, 3, 4, 5, 9, 10, 6, 7, 8, 11, 12, 13, 14, 15, 17, 18] (.float [16] (.ops 8 (.alt none (.plain (.ops 10 .done)) (.ops 4 (.alt none (.plain (.ops 6 .done)) (.ops 4 (.alt none (.plain (.ops 2 .done)) .stop)))))))) (.seq (some (4722294425275607291904, [(11, (.one .addr)), (12, (.one (.int .i64)))])) (.region [0, 1, 2, 3, 4, 5, 9, 10, 6, 7, 8, 11, 12, 13, 14, 15, 17, 18] (.float [16] (.ops 8 (.alt none (.plain (.ops 10 .done)) (.ops 4 (.alt none (.plain (.ops 6 .done)) (.ops 4 (.alt none (.plain (.ops 2 .done)) .stop)))))))) (.seq none (.seq (some (324518553653704360300286375362560, [(107, (.one .bool))])) (.region [] (.ops 4 (.split 75 (.skips 3 (.ops 2 (.skips 12 (.ops 2 (.skips 12 (.ops 1 .done)))))) (.ops 5 (.split 80 (.skips 12 (.ops 2 (.skips 12 (.ops 1 .done)))) (.ops 3 (.split 83 (.ops 4 (.split 87 (.skips 3 (.ops 4 (.skips 12 (.ops 1 .done)))) (.ops 7 (.split 94 (.skips 12 (.ops 1 .done)) (.ops 3 (.split 97 (.ops 4 (.split 101 (.skips 3 (.ops 3 .done)) (.ops 6 .done))) (.skips 8 (.ops 2 .done)))))))) (.skips 8 (.ops 6 (.split 97 (.ops 4 (.split 101 (.skips 3 (.ops 3 .done)) (.ops 6 .done))) (.skips 8 (.ops 2 .done)))))))))))) (.cond none (.seq none (.region [] (.ops 1 .done)) .leaf) .leaf)) (.seq none (.seq (some (340282042402384805036647824275747635200, [(127, (.one .bool))])) (.region [] (.ops 3 (.split 110 (.ops 3 (.split 113 (.skips 5 (.ops 2 (.skips 5 (.ops 2 .done)))) (.ops 7 (.split 120 (.skips 5 (.ops 2 .done)) (.ops 7 .done))))) (.skips 16 (.ops 1 .done))))) (.cond none (.seq none (.region [] (.ops 1 .done)) .leaf) .leaf)) (.seq none (.region [] (.ops 18 .done)) (.seq (some (11972621401864384106659274578843931360697218639069184, [(172, (.one .bool))])) (.region [0, 1, 2, 3, 4, 5, 6, 7, 8, 9, 10, 11, 12, 13, 14, 15, 16, 17, 18, 19, 20, 21, 22, 23, 25, 26, 24, 27, 28, 29] (.ops 4 (.split 146 (.skips 12 (.ops 2 (.skips 11 (.ops 1 .done)))) (.ops 3 (.split 149 (.ops 4 (.split 153 (.skips 3 (.ops 4 (.skips 11 (.ops 1 .done)))) (.ops 7 (.split 160 (.skips 11 (.ops 1 .done)) (.ops 12 .done))))) (.skips 8 (.ops 15 .done))))))) (.cond none (.seq none (.region [] (.ops 1 .done)) .leaf) .leaf))))))))) (.region [] (.ops 3 .done))))))) (.seq none (.region [] (.ops 1 .done)) .leaf)))))
noncomputable def h5 : Hint := (.seq none (.region [] (.ops 2 .done)) (.seq none (.region [] (.ops 8 .done)) (.seq none (.seq (some (536346624, [(28, (.one .bool))])) (.region [] (.ops 3 (.split 21 (.skips 2 (.ops 2 (.skips 2 (.ops 1 .done)))) (.ops 4 (.split 25 (.skips 2 (.ops 1 .done)) (.ops 3 .done)))))) (.cond none (.seq none (.region [] (.ops 1 .done)) .leaf) .leaf)) (.seq none (.region [] (.ops 6 .done)) (.seq none (.region [] (.ops 1 .done)) (.seq (some (120259084800, [(9, (.one (.int .i64)))])) (.seq none (.region [] (.ops 3 .done)) (.cond none (.region [] (.ops 1 .done)) .leaf)) (.seq (some (962072674816, [(9, (.one (.int .i64)))])) (.seq none (.region [] (.ops 3 .done)) (.cond none (.region [] (.ops 1 .done)) .leaf)) (.seq none (.region [] (.ops 12 .done)) (.seq none (.seq none (.region [] (.ops 2 .done)) (.cond none (.seq none (.region [] (.ops 3 .done)) .leaf) .leaf)) (.seq none (.seq none (.region [] (.ops 3 .done)) (.cond none (.seq none (.region [] (.ops 1 .done)) .leaf) .leaf)) (.seq none (.region [] (.ops 8 .done)) (.seq (some (151106504079791792070720, [])) (.seq none (.region [] (.ops 3 .done)) (.block (.loop 151078833963681227743296 [(13, (.one (.int .i64)))] (.seq none (.seq none (.region [] (.ops 4 .done)) (.cond none .leaf .leaf)) (.seq none (.block (.seq none (.region [] (.ops 5 .done)) (.cond none (.seq none (.region [] (.ops 1 .done)) .leaf) .leaf))) (.region [] (.ops 4 .done))))))) (.seq none (.region [] (.ops 6 (.split 82 (.skips 6 (.ops 2 .done)) (.ops 8 .done)))) .leaf)))))))))))))
noncomputable def h6 : Hint := (.seq none (.region [] (.ops 3 .done)) (.seq none (.region [] (.ops 5 .done)) .leaf))
noncomputable def F7 (a0 : (Int × Sl × Unit)) (a1 : (Int × Sl × Unit)) (a2 : Sl) (K : Bool → World → Prop) : World → Prop :=
 newO (.cells #[(.int .i64 a0.1), (.slice a0.2.1.a a0.2.1.len a0.2.1.cap)] 24) fun b1 =>
 newO (.cells #[(.int .i64 a1.1), (.slice a1.2.1.a a1.2.1.len a1.2.1.cap)] 24) fun b2 =>
 lds c24 (at0 b1) fun (x3 : (Int × Sl × Unit)) =>
 lds c24 (at0 b2) fun (x4 : (Int × Sl × Unit)) =>
 callT Tryz.prog 25 #[(.agg (Cells.vals c24 x3).toArray), (.agg (Cells.vals c24 x4).toArray), (.slice a2.a a2.len a2.cap), (.int .i64 (2 : Int)), (.int .i64 (2 : Int))] (.one (.one .bool)) fun (x5 : Bool) =>
 K x5
noncomputable def h7 : Hint := (.seq none (.region [] (.ops 3 .done)) (.seq none (.region [] (.ops 5 .done)) .leaf))
noncomputable def h8 : Hint := (.seq none (.region [] (.ops 3 .done)) (.seq none (.region [] (.ops 5 .done)) .leaf))
noncomputable def h9 : Hint := (.seq none (.region [] (.ops 3 .done)) (.seq none (.region [] (.ops 5 .done)) .leaf))
noncomputable def h10 : Hint := (.seq none (.region [] (.ops 3 .done)) (.seq none (.region [] (.ops 5 .done)) .leaf))
noncomputable def h12 : Hint := (.seq none (.region [] (.ops 1 .done)) (.seq none (.region [] (.ops 3 .done)) (.seq none (.region [] (.ops 3 .done)) (.seq none (.region [] (.ops 2 .done)) (.seq (some (562948879704064, [(13, (.one .sl))])) (.seq none (.region [] (.ops 1 .done)) (.block (.loop 562948879704064 [(13, (.one .sl)), (14, (.one (.int .i64)))] (.seq none (.seq (some (273804165120, [(37, (.one .bool))])) (.region [] (.ops 5 (.split 34 (.ops 3 .done) (.skips 2 (.ops 1 .done))))) (.cond none .leaf .leaf)) (.seq none (.block (.region [] (.ops 10 .done))) (.region [] (.ops 3 .done))))))) (.seq none (.region [] (.ops 5 .done)) (.seq none (.region [] (.ops 16 .done)) (.seq none (.seq none (.region [] (.ops 2 .done)) (.cond none (.seq none (.region [] (.ops 1 .done)) .leaf) .leaf)) (.seq none (.region [] (.ops 5 .done)) (.seq none (.region [] (.ops 5 .done)) (.seq none (.region [] (.ops 8 .done)) (.seq none (.region [] (.ops 11 .done)) (.seq none (.seq none (.region [] (.ops 6 .done)) (.cond none (.seq none (.region [] (.ops 1 .done)) .leaf) .leaf)) (.seq none (.region [] (.ops 2 .done)) (.seq (some (9824292151768777861599458230272, [(23, (.one (.int .i64)))])) (.seq none (.region [] (.ops 2 .done)) (.cond none (.region [] (.ops 4 .done)) .leaf)) (.seq none (.region [] (.ops 10 .done)) (.seq none (.seq none (.region [] (.ops 8 .done)) (.cond none (.seq none (.region [] (.ops 1 .done)) .leaf) .leaf)) (.seq none (.region [] (.ops 2 .done)) (.seq (some (19938419936773738093557105904221945856, [(24, (.one (.int .i64)))])) (.seq none (.region [] (.ops 2 .done)) (.cond none (.region [] (.ops 3 .done)) .leaf)) (.seq none (.region [] (.ops 10 .done)) (.seq none (.seq none (.region [] (.ops 6 .done)) (.cond none (.seq none (.region [] (.ops 1 .done)) .leaf) .leaf)) (.seq none (.seq none (.region [] (.ops 2 .done)) (.cond none (.seq none (.region [] (.ops 1 .done)) .leaf) .leaf)) (.seq none (.region [] (.ops 11 .done)) (.seq none (.seq none (.region [] (.ops 7 .done)) (.cond none (.seq none (.region [] (.ops 1 .done)) .leaf) .leaf)) (.seq none (.region [] (.ops 11 .done)) (.seq none (.region [] (.ops 7 .done)) .leaf))))))))))))))))))))))))))
noncomputable def h13 : Hint := (.seq none (.region [] (.ops 1 .done)) (.seq none (.region [] (.ops 2 .done)) (.seq none (.region [] (.ops 6 .done)) (.seq none (.region [] (.ops 3 .done)) (.seq none (.region [] (.ops 1 .done)) (.seq (some (18446744056529911808, [(15, (.one .sl))])) (.seq none (.region [] (.ops 1 .done)) (.block (.loop 18446744056529911808 [(15, (.one .sl)), (16, (.one (.int .i64)))] (.seq none (.seq (some (4380866641920, [(41, (.one .bool))])) (.region [] (.ops 5 (.split 38 (.ops 3 .done) (.skips 2 (.ops 1 .done))))) (.cond none .leaf .leaf)) (.seq none (.block (.seq none (.region [] (.ops 7 .done)) (.seq (some (1151795604700037120, [(15, (.one .sl))])) (.seq (some (142989288169013248, [(56, (.one .bool))])) (.region [] (.ops 4 (.split 53 (.skips 2 (.ops 1 .done)) (.ops 3 .done)))) (.cond none (.region [] (.ops 4 .done)) .leaf)) (.region [] (.ops 5 .done))))) (.region [] (.ops 3 .done))))))) (.seq none (.region [] (.ops 5 .done)) (.seq none (.region [] (.ops 17 .done)) (.seq none (.seq none (.region [] (.ops 2 .done)) (.cond none (.seq none (.region [] (.ops 1 .done)) .leaf) .leaf)) (.seq none (.region [] (.ops 5 .done)) (.seq none (.region [] (.ops 6 .done)) (.seq none (.region [] (.ops 11 .done)) (.seq none (.region [] (.ops 12 .done)) (.seq none (.seq none (.region [] (.ops 8 .done)) (.cond none (.seq none (.region [] (.ops 1 .done)) .leaf) .leaf)) (.seq none (.region [] (.ops 11 .done)) (.seq none (.seq none (.region [] (.ops 6 .done)) (.cond none (.seq none (.region [] (.ops 1 .done)) .leaf) .leaf)) (.seq none (.region [] (.ops 11 .done)) (.seq none (.seq none (.region [] (.ops 7 .done)) (.cond none (.seq none (.region [] (.ops 1 .done)) .leaf) .leaf)) (.seq none (.region [] (.ops 12 .done)) (.seq none (.region [] (.ops 3 .done)) .leaf))))))))))))))))))))
noncomputable def h14 : Hint := (.seq none (.region [] (.ops 1 .done)) (.seq none (.region [] (.ops 2 .done)) (.seq none (.region [] (.ops 6 .done)) (.seq none (.region [] (.ops 3 .done)) (.seq (some (412316991488, [(17, (.one (.int .i64)))])) (.seq none (.region [] (.ops 2 .done)) (.cond none (.region [] (.ops 1 .done)) .leaf)) (.seq none (.region [] (.ops 4 .done)) (.seq none (.region [] (.ops 6 .done)) (.seq none (.region [] (.ops 2 .done)) (.seq (some (75557863444439347494912, [(18, (.one .sl))])) (.seq none (.region [] (.ops 1 .done)) (.block (.loop 75557863444439347494912 [(18, (.one .sl)), (19, (.one (.int .i64)))] (.seq none (.seq (some (71776119061217280, [(55, (.one .bool))])) (.region [] (.ops 5 (.split 52 (.ops 3 .done) (.skips 2 (.ops 1 .done))))) (.cond none .leaf .leaf)) (.seq (some (75557575495538171969536, [(18, (.one .sl))])) (.block (.seq none (.region [] (.ops 10 .done)) (.seq none (.region [] (.ops 6 .done)) (.cond none (.region [] (.ops 4 .done)) .leaf)))) (.region [] (.ops 3 .done))))))) (.seq none (.region [] (.ops 4 .done)) (.seq none (.region [] (.ops 3 .done)) (.seq none (.region [] (.ops 18 .done)) (.seq none (.seq none (.region [] (.ops 2 .done)) (.cond none (.seq none (.region [] (.ops 1 .done)) .leaf) .leaf)) (.seq none (.region [] (.ops 11 .done)) (.seq none (.region [] (.ops 7 .done)) (.seq none (.region [] (.ops 10 .done)) (.seq none (.region [] (.ops 13 .done)) (.seq none (.seq none (.region [] (.ops 6 .done)) (.cond none (.seq none (.region [] (.ops 1 .done)) .leaf) .leaf)) (.seq none (.region [] (.ops 12 .done)) (.seq none (.seq none (.region [] (.ops 8 .done)) (.cond none (.seq none (.region [] (.ops 1 .done)) .leaf) .leaf)) (.seq none (.region [] (.ops 16 .done)) (.seq none (.seq none (.region [] (.ops 2 .done)) (.cond none (.seq none (.region [] (.ops 1 .done)) .leaf) .leaf)) (.seq none (.region [] (.ops 12 .done)) (.seq none (.region [] (.ops 3 .done)) .leaf))))))))))))))))))))))))
noncomputable def F15 (a0 : Int) (a1 : Int) (a2 : Sl) (a3 : Int) (a4 : Int) (K : Bool → World → Prop) : World → Prop :=
 callT Tryz.prog 18 #[(.int .i64 a1), (.int .i64 (4 : Int))] (.one (.one (.int .i64))) fun (x1 : Int) =>
 callT Tryz.prog 18 #[(.int .i64 a3), (.int .i64 (4 : Int))] (.one (.one (.int .i64))) fun (x2 : Int) =>
 newO (.cells #[(.int .i64 (120 : Int)), (.int .i64 (10 : Int))] 3) fun b3 =>
 join (S := Sl × Unit) (fun J4 =>
 sloop (S := Sl × Int × Unit) (fun (s6 : Sl × Int × Unit) again7 =>
 join (S := Bool × Unit) (fun J8 =>
 sif (decide (s6.2.1 < ((a2.len : Nat) : Int))) (
 J8 ((decide (s6.2.1 < (16 : Int))), ())) (
 J8 (false, ()))) fun (s9 : Bool × Unit) =>
 sif s9.1 (
 ix a2.a a2.len s6.2.1 fun p10 =>
 ld (.int .i64) (p10.add (scaled (Int.toNat s6.2.1) 1)) fun (x11 : Int) =>
 callT Tryz.prog 18 #[(.int .i64 x11), (.int .i64 (3 : Int))] (.one (.one (.int .i64))) fun (x12 : Int) =>
 callT Tryz.prog 28 #[(.int .i64 x12), (.int .i64 (32 : Int))] (.one (.one .sl)) fun (x13 : Sl) =>
 callT Tryz.prog 32 #[(.slice s6.1.a s6.1.len s6.1.cap), (.slice x13.a x13.len x13.cap)] (.one (.one .sl)) fun (x14 : Sl) =>
 newO (.cells #[(.int .i64 (121 : Int))] 3) fun b15 =>
 rawT Tryz.prog (.one (.one .sl)) (Builtin.append_ #[26, 26] 26 #[(.slice x14.a x14.len x14.cap), (.slice (some (at0 b15)) 1 1)]) fun (x16 : Sl) =>
 newO (.cells #[(.int .i64 (10 : Int))] 3) fun b17 =>
 rawT Tryz.prog (.one (.one .sl)) (Builtin.append_ #[26, 26] 26 #[(.slice x16.a x16.len x16.cap), (.slice (some (at0 b17)) 1 1)]) fun (x18 : Sl) =>
 again7 (x18, (IntKind.wrap .i64 (s6.2.1 + (1 : Int))), ())) (
 J4 (s6.1, ()))) (⟨(some (at0 b3)), 2, 2⟩, (0 : Int), ())) fun (s5 : Sl × Unit) =>
 join (S := Sl × Unit) (fun J19 =>
 sloop (S := Sl × Int × Unit) (fun (s21 : Sl × Int × Unit) again22 =>
 sif (decide (s21.2.1 < x2)) (
 chk ((3 : Int) ≠ 0) <|
 callT Tryz.prog 28 #[(.int .i64 (Int.tmod s21.2.1 (3 : Int))), (.int .i64 (9 : Int))] (.one (.one .sl)) fun (x23 : Sl) =>
 callT Tryz.prog 32 #[(.slice s21.1.a s21.1.len s21.1.cap), (.slice x23.a x23.len x23.cap)] (.one (.one .sl)) fun (x24 : Sl) =>
 newO (.cells #[(.int .i64 (10 : Int))] 3) fun b25 =>
 rawT Tryz.prog (.one (.one .sl)) (Builtin.append_ #[26, 26] 26 #[(.slice x24.a x24.len x24.cap), (.slice (some (at0 b25)) 1 1)]) fun (x26 : Sl) =>
 again22 (x26, (IntKind.wrap .i64 (s21.2.1 + (1 : Int))), ())) (
 J19 (s21.1, ()))) (⟨none, 0, 0⟩, (0 : Int), ())) fun (s20 : Sl × Unit) =>
 newO (.cells #[(.int .i64 (122 : Int))] 3) fun b27 =>
 join (S := Sl × Unit) (fun J28 =>
 sif (x2 == (0 : Int)) (
 J28 (⟨none, 0, 0⟩, ())) (
 J28 (⟨(some (at0 b27)), 1, 1⟩, ()))) fun (s29 : Sl × Unit) =>
 callT Tryz.prog 28 #[(.int .i64 x1), (.int .i64 (10 : Int))] (.one (.one .sl)) fun (x30 : Sl) =>
 newO (.cells #[(.slice x30.a x30.len x30.cap), (.slice s5.1.a s5.1.len s5.1.cap), (.slice s20.1.a s20.1.len s20.1.cap), (.slice s29.1.a s29.1.len s29.1.cap)] 26) fun b31 =>
 callT Tryz.prog 27 #[(.int .i64 a0), (.slice (some (at0 b31)) 4 4)] (.tup [(.agg c28), (.one .bool)]) fun (x32 : ((Option Addr × Sl × Unit) × Bool × Unit)) =>
 newO (.cells #[(.pointer none), (.slice none 0 0)] 28) fun b33 =>
 aggSt (at0 b33) (.agg (Cells.vals c28 x32.1).toArray) 2 <|
 sif (!x32.2.1) (
 K false) (
 callT Tryz.prog 18 #[(.int .i64 a4), (.int .i64 (IntKind.wrap .i64 (((s5.1.len : Nat) : Int) - (1 : Int))))] (.one (.one (.int .i64))) fun (x34 : Int) =>
 ld (.ptr) (at0 b33) fun (x35 : Option Addr) =>
 callT Tryz.prog 33 #[(.pointer x35), (.int .i64 (IntKind.wrap .i64 (x1 + x34))), (.agg #[(.int .i64 (69 : Int)), (.int .i64 (0 : Int)), (.int .i64 (0 : Int))])] (.tup [(.agg c34), (.one (.int .i64))]) fun (x36 : ((Int × Int × Int × Unit) × Int × Unit)) =>
 newO (.cells #[(.int .i64 (0 : Int)), (.int .i64 (0 : Int)), (.int .i64 (0 : Int))] 34) fun b37 =>
 aggSt (at0 b37) (.agg (Cells.vals c34 x36.1).toArray) 3 <|
 lds c34 (at0 b37) fun (x38 : (Int × Int × Int × Unit)) =>
 callT Tryz.prog 30 #[(.agg (Cells.vals c34 x38).toArray), (.int .i64 x36.2.1), (.int .i64 x1), (.int .i64 (IntKind.wrap .i64 (x1 + ((s5.1.len : Nat) : Int)))), (.int .i64 (1 : Int))] (.one (.one .bool)) fun (x39 : Bool) =>
 sif (!x39) (
 K false) (
 join (S := Int × Unit) (fun J40 =>
 sif (x2 == (0 : Int)) (
 J40 ((0 : Int), ())) (
 J40 (x1, ()))) fun (s41 : Int × Unit) =>
 ld (.ptr) (at0 b33) fun (x42 : Option Addr) =>
 callT Tryz.prog 20 #[(.pointer x42), (.int .i64 (IntKind.wrap .i64 (x1 + x34))), (.agg #[(.int .i64 (70 : Int)), (.int .i64 (0 : Int)), (.int .i64 (0 : Int))])] (.tup [(.agg c34), (.one (.int .i64))]) fun (x43 : ((Int × Int × Int × Unit) × Int × Unit)) =>
 aggSt (at0 b37) (.agg (Cells.vals c34 x43.1).toArray) 3 <|
 lds c34 (at0 b37) fun (x44 : (Int × Int × Int × Unit)) =>
 callT Tryz.prog 30 #[(.agg (Cells.vals c34 x44).toArray), (.int .i64 x43.2.1), (.int .i64 s41.1), (.int .i64 (IntKind.wrap .i64 ((IntKind.wrap .i64 (x1 + ((s5.1.len : Nat) : Int))) + ((s20.1.len : Nat) : Int)))), (.int .i64 (1 : Int))] (.one (.one .bool)) fun (x45 : Bool) =>
 K x45))
noncomputable def h15 : Hint := (.seq none (.region [] (.ops 1 .done)) (.seq none (.region [] (.ops 3 .done)) (.seq none (.region [] (.ops 3 .done)) (.seq none (.region [] (.ops 2 .done)) (.seq (some (9007198717876224, [(11, (.one .sl))])) (.seq none (.region [] (.ops 1 .done)) (.block (.loop 9007198717876224 [(11, (.one .sl)), (12, (.one (.int .i64)))] (.seq none (.seq (some (136902082560, [(36, (.one .bool))])) (.region [] (.ops 5 (.split 33 (.ops 3 .done) (.skips 2 (.ops 1 .done))))) (.cond none .leaf .leaf)) (.seq none (.block (.seq none (.region [] (.ops 9 .done)) (.seq none (.region [] (.ops 4 .done)) (.region [] (.ops 4 .done))))) (.region [] (.ops 3 .done))))))) (.seq none (.region [] (.ops 1 .done)) (.seq (some (73777969095583490048, [(13, (.one .sl))])) (.seq none (.region [] (.ops 1 .done)) (.block (.loop 73777969095583490048 [(13, (.one .sl)), (14, (.one (.int .i64)))] (.seq none (.seq none (.region [] (.ops 3 .done)) (.cond none .leaf .leaf)) (.seq none (.block (.seq none (.region [] (.ops 6 .done)) (.region [] (.ops 4 .done)))) (.region [] (.ops 3 .done))))))) (.seq none (.region [] (.ops 2 .done)) (.seq (some (442721857769029271552, [(15, (.one .sl))])) (.seq none (.region [] (.ops 2 .done)) (.cond none (.region [] (.ops 1 .done)) .leaf)) (.seq none (.region [] (.ops 14 .done)) (.seq none (.seq none (.region [] (.ops 2 .done)) (.cond none (.seq none (.region [] (.ops 1 .done)) .leaf) .leaf)) (.seq none (.region [] (.ops 2 .done)) (.seq none (.region [] (.ops 5 .done)) (.seq none (.region [] (.ops 8 .done)) (.seq none (.region [] (.ops 11 .done)) (.seq none (.seq none (.region [] (.ops 6 .done)) (.cond none (.seq none (.region [] (.ops 1 .done)) .leaf) .leaf)) (.seq none (.region [] (.ops 2 .done)) (.seq (some (1947111321950560360698936131846144, [(23, (.one (.int .i64)))])) (.seq none (.region [] (.ops 2 .done)) (.cond none (.region [] (.ops 1 .done)) .leaf)) (.seq none (.region [] (.ops 10 .done)) (.seq none (.region [] (.ops 9 .done)) .leaf))))))))))))))))))))
theorem F15_tie (a0 : Int) (a1 : Int) (a2 : Sl) (a3 : Int) (a4 : Int) (K : Bool → World → Prop) : vcgF tab Tryz.prog Tryz.f15 h15 [(.int .i64 a0), (.int .i64 a1), (.slice a2.a a2.len a2.cap), (.int .i64 a3), (.int .i64 a4)] (.one (.one .bool)) K = F15 a0 a1 a2 a3 a4 K := by kernel_rfl
theorem F15_calls {a0 : Int} {a1 : Int} {a2 : Sl} {a3 : Int} {a4 : Int} {K : Bool → World → Prop} {w : World} (h : F15 a0 a1 a2 a3 a4 K w) : callT Tryz.prog 15 #[(.int .i64 a0), (.int .i64 a1), (.slice a2.a a2.len a2.cap), (.int .i64 a3), (.int .i64 a4)] (.one (.one .bool)) K w :=
  vcgF_sound tabOk Tryz.func15 h15 [(.int .i64 a0), (.int .i64 a1), (.slice a2.a a2.len a2.cap), (.int .i64 a3), (.int .i64 a4)] (.one (.one .bool)) K w (Eq.mpr (congrFun (F15_tie a0 a1 a2 a3 a4 K) w) h)
noncomputable def F16 (a0 : (Int × Sl × Unit)) (K : ((Option Addr × Sl × Unit) × Bool × Unit) → World → Prop) : World → Prop :=
 newO (.cells #[(.int .i64 a0.1), (.slice a0.2.1.a a0.2.1.len a0.2.1.cap)] 24) fun b1 =>
 newO (.cells #[(.pointer none), (.slice none 0 0)] 28) fun b2 =>
 ld (.int .i64) (at0 b1) fun (x3 : Int) =>
 join (S := Sl × Unit) (fun J4 =>
 sloop (S := Sl × Int × Unit) (fun (s6 : Sl × Int × Unit) again7 =>
 join (S := Bool × Unit) (fun J8 =>
 ld (.sl) (⟨b1, 1, none⟩ : Addr) fun (x10 : Sl) =>
 sif (decide (s6.2.1 < ((x10.len : Nat) : Int))) (
 J8 ((decide (s6.2.1 < (50000 : Int))), ())) (
 J8 (false, ()))) fun (s9 : Bool × Unit) =>
 sif s9.1 (
 ld (.sl) (⟨b1, 1, none⟩ : Addr) fun (x11 : Sl) =>
 ix x11.a x11.len s6.2.1 fun p12 =>
 ld (.int .u8) (p12.add (scaled (Int.toNat s6.2.1) 1)) fun (x13 : Int) =>
 newO (.cells #[(.int .u8 x13)] 5) fun b14 =>
 rawT Tryz.prog (.one (.one .sl)) (Builtin.append_ #[22, 22] 22 #[(.slice s6.1.a s6.1.len s6.1.cap), (.slice (some (at0 b14)) 1 1)]) fun (x15 : Sl) =>
 again7 (x15, (IntKind.wrap .i64 (s6.2.1 + (1 : Int))), ())) (
 J4 (s6.1, ()))) (⟨none, 0, 0⟩, (0 : Int), ())) fun (s5 : Sl × Unit) =>
 callT Tryz.prog 34 #[(.int .i64 (IntKind.wrap .i64 ((1 : Int) + (IntKind.wrap .i64 ((BitVec.toNat (BitVec.ofInt (IntKind.bits .i64) x3 &&& BitVec.ofInt (IntKind.bits .i64) (3 : Int)) : Nat) : Int))))), (.slice s5.1.a s5.1.len s5.1.cap)] (.tup [(.one .sl), (.one (.int .i64))]) fun (x16 : (Sl × Int × Unit)) =>
 callT Tryz.prog 35 #[(.int .i64 (IntKind.wrap .i64 ((1 : Int) + (IntKind.wrap .i64 ((BitVec.toNat (BitVec.ofInt (IntKind.bits .i64) x3 &&& BitVec.ofInt (IntKind.bits .i64) (3 : Int)) : Nat) : Int))))), (.slice s5.1.a s5.1.len s5.1.cap), (.int .i64 (65536 : Int))] (.tup [(.one .ptr), (.one (.int .i64))]) fun (x17 : (Option Addr × Int × Unit)) =>
 join (S := Bool × Unit) (fun J18 =>
 sif (Option.isNone x17.1) (
 J18 (true, ())) (
 J18 ((x17.2.1 != (0 : Int)), ()))) fun (s19 : Bool × Unit) =>
 sif s19.1 (
 aggSt (at0 b2) (.agg #[(.pointer none), (.slice none 0 0)]) 2 <|
 lds c28 (at0 b2) fun (x20 : (Option Addr × Sl × Unit)) =>
 K (x20, false, ())) (
 callT Tryz.prog 36 #[(.pointer x17.1), (.slice x16.1.a x16.1.len x16.1.cap)] (.one (.one .bool)) fun (x21 : Bool) =>
 aggSt (at0 b2) (.agg #[(.pointer x17.1), (.slice x16.1.a x16.1.len x16.1.cap)]) 2 <|
 lds c28 (at0 b2) fun (x22 : (Option Addr × Sl × Unit)) =>
 K (x22, x21, ()))
noncomputable def h16 : Hint := (.seq none (.region [] (.ops 3 .done)) (.seq none (.region [] (.ops 5 .done)) (.seq none (.region [] (.ops 1 .done)) (.seq (some (17179836512, [(5, (.one .sl))])) (.seq none (.region [] (.ops 1 .done)) (.block (.loop 17179836512 [(5, (.one .sl)), (6, (.one (.int .i64)))] (.seq none (.seq (some (16744448, [(23, (.one .bool))])) (.region [] (.ops 6 (.split 20 (.ops 3 .done) (.skips 2 (.ops 1 .done))))) (.cond none .leaf .leaf)) (.seq none (.block (.region [] (.ops 9 .done))) (.region [] (.ops 3 .done))))))) (.seq none (.region [] (.ops 8 .done)) (.seq none (.region [] (.ops 8 .done)) (.seq none (.seq (some (4433230883192832, [(51, (.one .bool))])) (.region [] (.ops 3 (.split 48 (.skips 2 (.ops 1 .done)) (.ops 3 .done)))) (.cond none (.seq none (.region [] (.ops 3 .done)) .leaf) .leaf)) (.seq none (.region [] (.ops 8 .done)) .leaf))))))))
theorem F16_tie (a0 : (Int × Sl × Unit)) (K : ((Option Addr × Sl × Unit) × Bool × Unit) → World → Prop) : vcgF tab Tryz.prog Tryz.f16 h16 [(.agg (Cells.vals c24 a0).toArray)] (.tup [(.agg c28), (.one .bool)]) K = F16 a0 K := by kernel_rfl
theorem F16_calls {a0 : (Int × Sl × Unit)} {K : ((Option Addr × Sl × Unit) × Bool × Unit) → World → Prop} {w : World} (h : F16 a0 K w) : callT Tryz.prog 16 #[(.agg (Cells.vals c24 a0).toArray)] (.tup [(.agg c28), (.one .bool)]) K w :=
  vcgF_sound tabOk Tryz.func16 h16 [(.agg (Cells.vals c24 a0).toArray)] (.tup [(.agg c28), (.one .bool)]) K w (Eq.mpr (congrFun (F16_tie a0 K) w) h)
noncomputable def F18 (a0 : Int) (a1 : Int) (K : Int → World → Prop) : World → Prop :=
 join (S := Int × Unit) (fun J1 =>
 sif (decide (a0 < (0 : Int))) (
 J1 ((IntKind.wrap .i64 (0 - (IntKind.wrap .i64 (a0 + (1 : Int))))), ())) (
 J1 (a0, ()))) fun (s2 : Int × Unit) =>
 chk ((IntKind.wrap .i64 (a1 + (1 : Int))) ≠ 0) <|
 K (Int.tmod s2.1 (IntKind.wrap .i64 (a1 + (1 : Int))))
noncomputable def h18 : Hint := (.seq none (.region [] (.ops 1 .done)) (.seq (some (993, [(0, (.one (.int .i64)))])) (.seq none (.region [] (.ops 2 .done)) (.cond none (.region [] (.ops 4 .done)) .leaf)) (.seq none (.region [] (.ops 5 .done)) .leaf)))
theorem F18_tie (a0 : Int) (a1 : Int) (K : Int → World → Prop) : vcgF tab Tryz.prog Tryz.f18 h18 [(.int .i64 a0), (.int .i64 a1)] (.one (.one (.int .i64))) K = F18 a0 a1 K := by kernel_rfl
theorem F18_calls {a0 : Int} {a1 : Int} {K : Int → World → Prop} {w : World} (h : F18 a0 a1 K w) : callT Tryz.prog 18 #[(.int .i64 a0), (.int .i64 a1)] (.one (.one (.int .i64))) K w :=
  vcgF_sound tabOk Tryz.func18 h18 [(.int .i64 a0), (.int .i64 a1)] (.one (.one (.int .i64))) K w (Eq.mpr (congrFun (F18_tie a0 a1 K) w) h)
noncomputable def F27 (a0 : Int) (a1 : Sl) (K : ((Option Addr × Sl × Unit) × Bool × Unit) → World → Prop) : World → Prop :=
 newO (.cells #[(.pointer none), (.slice none 0 0)] 28) fun b1 =>
 callT Tryz.prog 16 #[(.agg #[(.int .i64 a0), (.slice none 0 0)])] (.tup [(.agg c28), (.one .bool)]) fun (x2 : ((Option Addr × Sl × Unit) × Bool × Unit)) =>
 newO (.cells #[(.pointer none), (.slice none 0 0)] 28) fun b3 =>
 aggSt (at0 b3) (.agg (Cells.vals c28 x2.1).toArray) 2 <|
 sif (!x2.2.1) (
 lds c28 (at0 b3) fun (x4 : (Option Addr × Sl × Unit)) =>
 aggSt (at0 b1) (.agg (Cells.vals c28 x4).toArray) 2 <|
 lds c28 (at0 b1) fun (x5 : (Option Addr × Sl × Unit)) =>
 K (x5, false, ())) (
 join (S := Sl × Unit) (fun J6 =>
 sloop (S := Sl × Int × Unit) (fun (s8 : Sl × Int × Unit) again9 =>
 sif (decide (s8.2.1 < ((a1.len : Nat) : Int))) (
 ix a1.a a1.len s8.2.1 fun p10 =>
 ld (.sl) (p10.add (scaled (Int.toNat s8.2.1) 1)) fun (x11 : Sl) =>
 callT Tryz.prog 32 #[(.slice s8.1.a s8.1.len s8.1.cap), (.slice x11.a x11.len x11.cap)] (.one (.one .sl)) fun (x12 : Sl) =>
 again9 (x12, (IntKind.wrap .i64 (s8.2.1 + (1 : Int))), ())) (
 J6 (s8.1, ()))) (⟨none, 0, 0⟩, (0 : Int), ())) fun (s7 : Sl × Unit) =>
 drew <|
 ld (.ptr) (at0 b3) fun (x13 : Option Addr) =>
 callT Tryz.prog 46 #[(.slice s7.1.a s7.1.len s7.1.cap)] (.one (.one .sl)) fun (x14 : Sl) =>
 keep (fun w => w.cell? (at0 b3) = some (Cell.val (.ptr) x13)) <|
 newO (.cells #[(.int .i64 (0 : Int)), (.int .i64 (0 : Int)), (.slice x14.a x14.len x14.cap)] 83) fun b15 =>
 keep (fun w => w.cell? (at0 b3) = some (Cell.val (.ptr) x13)) <|
 callT Tryz.prog 50 #[(.pointer x13), (.slice (some (at0 b15)) 1 1)] (.one (.one (.int .i64))) fun (x16 : Int) =>
 stC (⟨b3, 1, none⟩ : Addr) (.slice s7.1.a s7.1.len s7.1.cap) <|
 lds c28 (at0 b3) fun (x17 : (Option Addr × Sl × Unit)) =>
 aggSt (at0 b1) (.agg (Cells.vals c28 x17).toArray) 2 <|
 lds c28 (at0 b1) fun (x18 : (Option Addr × Sl × Unit)) =>
 K (x18, (x16 == (0 : Int)), ()))
noncomputable def h27 : Hint := (.seq none (.region [] (.ops 2 .done)) (.seq none (.region [] (.ops 9 .done)) (.seq none (.seq none (.region [] (.ops 2 .done)) (.cond none (.seq none (.region [] (.ops 3 .done)) .leaf) .leaf)) (.seq none (.region [] (.ops 1 .done)) (.seq (some (4293919488, [(8, (.one .sl))])) (.seq none (.region [] (.ops 1 .done)) (.block (.loop 4293919488 [(8, (.one .sl)), (9, (.one (.int .i64)))] (.seq none (.seq none (.region [] (.ops 4 .done)) (.cond none .leaf .leaf)) (.seq none (.block (.region [] (.ops 7 .done))) (.region [] (.ops 3 .done))))))) (.seq none (.region [0, 1, 2, 3, 4, 5, 6, 7] (.ops 8 .done)) (.seq none (.region [] (.ops 3 .done)) (.seq none (.region [] (.ops 5 .done)) .leaf))))))))
theorem F27_tie (a0 : Int) (a1 : Sl) (K : ((Option Addr × Sl × Unit) × Bool × Unit) → World → Prop) : vcgF tab Tryz.prog Tryz.f27 h27 [(.int .i64 a0), (.slice a1.a a1.len a1.cap)] (.tup [(.agg c28), (.one .bool)]) K = F27 a0 a1 K := by kernel_rfl
theorem F27_calls {a0 : Int} {a1 : Sl} {K : ((Option Addr × Sl × Unit) × Bool × Unit) → World → Prop} {w : World} (h : F27 a0 a1 K w) : callT Tryz.prog 27 #[(.int .i64 a0), (.slice a1.a a1.len a1.cap)] (.tup [(.agg c28), (.one .bool)]) K w :=
  vcgF_sound tabOk Tryz.func27 h27 [(.int .i64 a0), (.slice a1.a a1.len a1.cap)] (.tup [(.agg c28), (.one .bool)]) K w (Eq.mpr (congrFun (F27_tie a0 a1 K) w) h)
noncomputable def F28 (a0 : Int) (a1 : Int) (K : Sl → World → Prop) : World → Prop :=
 join (S := Sl × Unit) (fun J1 =>
 sloop (S := Sl × Int × Unit) (fun (s3 : Sl × Int × Unit) again4 =>
 sif (decide (s3.2.1 < a0)) (
 newO (.cells #[(.int .i64 a1)] 3) fun b5 =>
 rawT Tryz.prog (.one (.one .sl)) (Builtin.append_ #[26, 26] 26 #[(.slice s3.1.a s3.1.len s3.1.cap), (.slice (some (at0 b5)) 1 1)]) fun (x6 : Sl) =>
 again4 (x6, (IntKind.wrap .i64 (s3.2.1 + (1 : Int))), ())) (
 J1 (s3.1, ()))) (⟨none, 0, 0⟩, (0 : Int), ())) fun (s2 : Sl × Unit) =>
 K s2.1
noncomputable def h28 : Hint := (.seq none (.region [] (.ops 1 .done)) (.seq none (.region [] (.ops 1 .done)) (.seq (some (65504, [(5, (.one .sl))])) (.seq none (.region [] (.ops 1 .done)) (.block (.loop 65504 [(5, (.one .sl)), (6, (.one (.int .i64)))] (.seq none (.seq none (.region [] (.ops 3 .done)) (.cond none .leaf .leaf)) (.seq none (.block (.region [] (.ops 5 .done))) (.region [] (.ops 3 .done))))))) (.seq none (.region [] (.ops 2 .done)) .leaf))))
theorem F28_tie (a0 : Int) (a1 : Int) (K : Sl → World → Prop) : vcgF tab Tryz.prog Tryz.f28 h28 [(.int .i64 a0), (.int .i64 a1)] (.one (.one .sl)) K = F28 a0 a1 K := by kernel_rfl
theorem F28_calls {a0 : Int} {a1 : Int} {K : Sl → World → Prop} {w : World} (h : F28 a0 a1 K w) : callT Tryz.prog 28 #[(.int .i64 a0), (.int .i64 a1)] (.one (.one .sl)) K w :=
  vcgF_sound tabOk Tryz.func28 h28 [(.int .i64 a0), (.int .i64 a1)] (.one (.one .sl)) K w (Eq.mpr (congrFun (F28_tie a0 a1 K) w) h)
noncomputable def F30 (a0 : (Int × Int × Int × Unit)) (a1 : Int) (a2 : Int) (a3 : Int) (a4 : Int) (K : Bool → World → Prop) : World → Prop :=
 newO (.cells #[(.int .i64 a0.1), (.int .i64 a0.2.1), (.int .i64 a0.2.2.1)] 34) fun b1 =>
 sif (a1 == (0 : Int)) (
 ld (.int .i64) (at0 b1) fun (x2 : Int) =>
 sif (x2 == a2) (
 ld (.int .i64) (⟨b1, 1, none⟩ : Addr) fun (x3 : Int) =>
 sif (x3 == a3) (
 ld (.int .i64) (⟨b1, 2, none⟩ : Addr) fun (x4 : Int) =>
 K (x4 == a4)) (
 K false)) (
 K false)) (
 K false)
noncomputable def h30 : Hint := (.seq none (.region [] (.ops 2 .done)) (.seq none (.region [] (.ops 3 (.split 13 (.ops 6 (.split 19 (.ops 6 (.split 25 (.ops 6 .done) (.skips 4 (.ops 2 .done)))) (.skips 4 (.ops 2 (.skips 4 (.ops 2 .done)))))) (.skips 4 (.ops 2 (.skips 4 (.ops 2 (.skips 4 (.ops 2 .done))))))))) .leaf))
theorem F30_tie (a0 : (Int × Int × Int × Unit)) (a1 : Int) (a2 : Int) (a3 : Int) (a4 : Int) (K : Bool → World → Prop) : vcgF tab Tryz.prog Tryz.f30 h30 [(.agg (Cells.vals c34 a0).toArray), (.int .i64 a1), (.int .i64 a2), (.int .i64 a3), (.int .i64 a4)] (.one (.one .bool)) K = F30 a0 a1 a2 a3 a4 K := by kernel_rfl
theorem F30_calls {a0 : (Int × Int × Int × Unit)} {a1 : Int} {a2 : Int} {a3 : Int} {a4 : Int} {K : Bool → World → Prop} {w : World} (h : F30 a0 a1 a2 a3 a4 K w) : callT Tryz.prog 30 #[(.agg (Cells.vals c34 a0).toArray), (.int .i64 a1), (.int .i64 a2), (.int .i64 a3), (.int .i64 a4)] (.one (.one .bool)) K w :=
  vcgF_sound tabOk Tryz.func30 h30 [(.agg (Cells.vals c34 a0).toArray), (.int .i64 a1), (.int .i64 a2), (.int .i64 a3), (.int .i64 a4)] (.one (.one .bool)) K w (Eq.mpr (congrFun (F30_tie a0 a1 a2 a3 a4 K) w) h)
noncomputable def F32 (a0 : Sl) (a1 : Sl) (K : Sl → World → Prop) : World → Prop :=
 callT Tryz.prog 46 #[(.slice a0.a a0.len a0.cap)] (.one (.one .sl)) fun (x1 : Sl) =>
 join (S := Sl × Unit) (fun J2 =>
 sloop (S := Sl × Int × Unit) (fun (s4 : Sl × Int × Unit) again5 =>
 sif (decide (s4.2.1 < ((a1.len : Nat) : Int))) (
 ix a1.a a1.len s4.2.1 fun p6 =>
 ld (.int .i64) (p6.add (scaled (Int.toNat s4.2.1) 1)) fun (x7 : Int) =>
 newO (.cells #[(.int .i64 x7)] 3) fun b8 =>
 rawT Tryz.prog (.one (.one .sl)) (Builtin.append_ #[26, 26] 26 #[(.slice s4.1.a s4.1.len s4.1.cap), (.slice (some (at0 b8)) 1 1)]) fun (x9 : Sl) =>
 again5 (x9, (IntKind.wrap .i64 (s4.2.1 + (1 : Int))), ())) (
 J2 (s4.1, ()))) (x1, (0 : Int), ())) fun (s3 : Sl × Unit) =>
 K s3.1
noncomputable def h32 : Hint := (.seq none (.region [] (.ops 1 .done)) (.seq none (.region [] (.ops 3 .done)) (.seq (some (4193888, [(5, (.one .sl))])) (.seq none (.region [] (.ops 1 .done)) (.block (.loop 4193888 [(5, (.one .sl)), (6, (.one (.int .i64)))] (.seq none (.seq none (.region [] (.ops 4 .done)) (.cond none .leaf .leaf)) (.seq none (.block (.region [] (.ops 8 .done))) (.region [] (.ops 3 .done))))))) (.seq none (.region [] (.ops 2 .done)) .leaf))))
theorem F32_tie (a0 : Sl) (a1 : Sl) (K : Sl → World → Prop) : vcgF tab Tryz.prog Tryz.f32 h32 [(.slice a0.a a0.len a0.cap), (.slice a1.a a1.len a1.cap)] (.one (.one .sl)) K = F32 a0 a1 K := by kernel_rfl
theorem F32_calls {a0 : Sl} {a1 : Sl} {K : Sl → World → Prop} {w : World} (h : F32 a0 a1 K w) : callT Tryz.prog 32 #[(.slice a0.a a0.len a0.cap), (.slice a1.a a1.len a1.cap)] (.one (.one .sl)) K w :=
  vcgF_sound tabOk Tryz.func32 h32 [(.slice a0.a a0.len a0.cap), (.slice a1.a a1.len a1.cap)] (.one (.one .sl)) K w (Eq.mpr (congrFun (F32_tie a0 a1 K) w) h)
noncomputable def F36 (a0 : Option Addr) (a1 : Sl) (K : Bool → World → Prop) : World → Prop :=
 join (S := Unit) (fun J1 =>
 sloop (S := Int × Int × Unit) (fun (s3 : Int × Int × Unit) again4 =>
 sif (decide (s3.2.1 < ((a1.len : Nat) : Int))) (
 join (S := Int × Unit) (fun J5 =>
 join (S := Bool × Unit) (fun J7 =>
 ix a1.a a1.len s3.2.1 fun p9 =>
 ld (.int .i64) (p9.add (scaled (Int.toNat s3.2.1) 1)) fun (x10 : Int) =>
 sif (x10 == (10 : Int)) (
 J7 (true, ())) (
 ix a1.a a1.len s3.2.1 fun p11 =>
 ld (.int .i64) (p11.add (scaled (Int.toNat s3.2.1) 1)) fun (x12 : Int) =>
 sif (x12 == (13 : Int)) (
 sif ((IntKind.wrap .i64 (s3.2.1 + (1 : Int))) == ((a1.len : Nat) : Int)) (
 J7 (true, ())) (
 ix a1.a a1.len (IntKind.wrap .i64 (s3.2.1 + (1 : Int))) fun p13 =>
 ld (.int .i64) (p13.add (scaled (Int.toNat (IntKind.wrap .i64 (s3.2.1 + (1 : Int)))) 1)) fun (x14 : Int) =>
 J7 ((x14 != (10 : Int)), ()))) (
 J7 (false, ())))) fun (s8 : Bool × Unit) =>
 sif s8.1 (
 join (S := Bool × Unit) (fun J15 =>
 callT Tryz.prog 66 #[(.pointer a0), (.int .i64 (IntKind.wrap .i64 (s3.2.1 + (1 : Int))))] (.one (.one (.int .i64))) fun (x17 : Int) =>
 sif (x17 != (IntKind.wrap .i64 (s3.1 + (1 : Int)))) (
 J15 (true, ())) (
 callT Tryz.prog 67 #[(.pointer a0), (.int .i64 (IntKind.wrap .i64 (s3.1 + (1 : Int))))] (.one (.one (.int .i64))) fun (x18 : Int) =>
 J15 ((x18 != (IntKind.wrap .i64 (s3.2.1 + (1 : Int)))), ()))) fun (s16 : Bool × Unit) =>
 sif s16.1 (
 K false) (
 J5 ((IntKind.wrap .i64 (s3.1 + (1 : Int))), ()))) (
 J5 (s3.1, ()))) fun (s6 : Int × Unit) =>
 again4 (s6.1, (IntKind.wrap .i64 (s3.2.1 + (1 : Int))), ())) (
 J1 ())) ((0 : Int), (0 : Int), ())) fun (s2 : Unit) =>
 K true
noncomputable def h36 : Hint := (.seq none (.region [] (.ops 1 .done)) (.seq none (.region [] (.ops 1 .done)) (.seq (some (72057594037927920, [])) (.seq none (.region [] (.ops 1 .done)) (.block (.loop 72057594037927920 [(5, (.one (.int .i64))), (6, (.one (.int .i64)))] (.seq none (.seq none (.region [] (.ops 4 .done)) (.cond none .leaf .leaf)) (.seq (some (72057594037919792, [(5, (.one (.int .i64)))])) (.block (.seq (some (1099511619584, [(39, (.one .bool))])) (.region [] (.ops 6 (.split 18 (.skips 20 (.ops 1 .done)) (.ops 6 (.split 24 (.ops 6 (.split 30 (.skips 6 (.ops 3 .done)) (.ops 9 .done))) (.skips 13 (.ops 2 .done))))))) (.cond none (.seq none (.region [] (.ops 3 .done)) (.seq (some (72053195991416832, [(55, (.one .bool))])) (.region [] (.ops 7 (.split 48 (.skips 6 (.ops 1 .done)) (.ops 7 .done)))) (.cond none (.seq none (.region [] (.ops 1 .done)) .leaf) .leaf))) .leaf))) (.region [] (.ops 3 .done))))))) (.seq none (.region [] (.ops 1 .done)) .leaf))))
theorem F36_tie (a0 : Option Addr) (a1 : Sl) (K : Bool → World → Prop) : vcgF tab Tryz.prog Tryz.f36 h36 [(.pointer a0), (.slice a1.a a1.len a1.cap)] (.one (.one .bool)) K = F36 a0 a1 K := by kernel_rfl
theorem F36_calls {a0 : Option Addr} {a1 : Sl} {K : Bool → World → Prop} {w : World} (h : F36 a0 a1 K w) : callT Tryz.prog 36 #[(.pointer a0), (.slice a1.a a1.len a1.cap)] (.one (.one .bool)) K w :=
  vcgF_sound tabOk Tryz.func36 h36 [(.pointer a0), (.slice a1.a a1.len a1.cap)] (.one (.one .bool)) K w (Eq.mpr (congrFun (F36_tie a0 a1 K) w) h)
noncomputable def F46 (a0 : Sl) (K : Sl → World → Prop) : World → Prop :=
 join (S := Sl × Unit) (fun J1 =>
 sloop (S := Sl × Int × Unit) (fun (s3 : Sl × Int × Unit) again4 =>
 sif (decide (s3.2.1 < ((a0.len : Nat) : Int))) (
 ix a0.a a0.len s3.2.1 fun p5 =>
 ld (.int .i64) (p5.add (scaled (Int.toNat s3.2.1) 1)) fun (x6 : Int) =>
 newO (.cells #[(.int .i64 x6)] 3) fun b7 =>
 rawT Tryz.prog (.one (.one .sl)) (Builtin.append_ #[26, 26] 26 #[(.slice s3.1.a s3.1.len s3.1.cap), (.slice (some (at0 b7)) 1 1)]) fun (x8 : Sl) =>
 again4 (x8, (IntKind.wrap .i64 (s3.2.1 + (1 : Int))), ())) (
 J1 (s3.1, ()))) (⟨none, 0, 0⟩, (0 : Int), ())) fun (s2 : Sl × Unit) =>
 K s2.1
noncomputable def h46 : Hint := (.seq none (.region [] (.ops 1 .done)) (.seq none (.region [] (.ops 1 .done)) (.seq (some (262136, [(3, (.one .sl))])) (.seq none (.region [] (.ops 1 .done)) (.block (.loop 262136 [(3, (.one .sl)), (4, (.one (.int .i64)))] (.seq none (.seq none (.region [] (.ops 4 .done)) (.cond none .leaf .leaf)) (.seq none (.block (.region [] (.ops 8 .done))) (.region [] (.ops 3 .done))))))) (.seq none (.region [] (.ops 2 .done)) .leaf))))
theorem F46_tie (a0 : Sl) (K : Sl → World → Prop) : vcgF tab Tryz.prog Tryz.f46 h46 [(.slice a0.a a0.len a0.cap)] (.one (.one .sl)) K = F46 a0 K := by kernel_rfl
theorem F46_calls {a0 : Sl} {K : Sl → World → Prop} {w : World} (h : F46 a0 K w) : callT Tryz.prog 46 #[(.slice a0.a a0.len a0.cap)] (.one (.one .sl)) K w :=
  vcgF_sound tabOk Tryz.func46 h46 [(.slice a0.a a0.len a0.cap)] (.one (.one .sl)) K w (Eq.mpr (congrFun (F46_tie a0 K) w) h)
end Go.Proofs.YtabcpghhfeplaaaGreat
set_option linter.unusedSimpArgs false
set_option linter.unusedVariables false
set_option maxRecDepth 100000
namespace Go.Proofs.YtabcpghhfeplaaaGreat
open Go Go.Vx Cdc Trx Gly Clu Lns Obx
section
variable {w w' : World} {S : Nat → Prop} {p : Nat} {e : Enc} {lim na : Nat} {O : Nat → Prop} {M : Parts}
abbrev In64 (x : Int) : Prop := -(2 ^ 63) ≤ x ∧ x < 2 ^ 63
def within (x : Int) (n : Nat) : Nat := (if x < 0 then -(x + 1) else x).toNat % (n + 1)
theorem within_le (x : Int) (n : Nat) : within x n ≤ n := by have := Nat.mod_lt (if x < 0 then -(x + 1) else x).toNat (show 0 < n + 1 by omega); unfold within; omega
theorem within_call {x : Int} {n : Nat} (hx : In64 x) (hn : n < 2 ^ 62) {K : Int → World → Prop} (hK : K ((within x n : Nat) : Int) w) : callT Tryz.prog 18 #[.int .i64 x, .int .i64 (n : Int)] (.one (.one (.int .i64))) K w := by
  refine F18_calls ?_
  unfold F18
  have ew : IntKind.wrap .i64 ((n : Int) + 1) = ((n + 1 : Nat) : Int) := by rw [wrap64 (by omega) (by omega)]; omega
  rw [ew]
  refine join_r (fun y W => y = ((((if x < 0 then -(x + 1) else x).toNat : Nat) : Int), ()) ∧ w = W) ?_ ?_
  · refine sif_r (fun h => ⟨?_, rfl⟩) (fun h => ⟨?_, rfl⟩)
    · simp only [decide_eq_true_eq] at h
      rw [if_pos h, wrap64 (a := x + 1) (by omega) (by omega), wrap64 (by omega) (by omega)]
      congr 1; omega
    · simp only [decide_eq_false_iff_not] at h
      rw [if_neg h]
      congr 1; omega
  rintro _ _ ⟨rfl, rfl⟩
  refine chk_r (by omega) ?_
  rw [Int.tmod_eq_emod_of_nonneg (by omega)]
  exact hK
theorem sk_isb {A : List Int} {i : Nat} (h : isb A i = true) : sk A (nb A i + 1) = some (i + 1) := by
  have hi := isb_lt h
  have hn : nb A (i + 1) = nb A i + 1 := by rw [nb_succ, h]; rfl
  have hle : nb A i + 1 ≤ brs A := by rw [← hn, brs_nb]; exact nb_mono A _ _ (by omega)
  obtain ⟨m, hm⟩ := sk_ok hle
  obtain ⟨_, _, h3, h4⟩ := sk_get hm
  rw [hm]
  have h1 : ¬ i + 1 < m := fun hc => by have := h4 _ hc; omega
  have h2 : ¬ m < i + 1 := fun hc => by have := nb_mono A m i (by omega); omega
  congr 1; omega
theorem lined_call {s : Sl} {t : TypeId} (h : Txt w p e lim na O M) (hs : SlIn w s t 1 (iv (atoms (aOf e M)))) {K : Bool → World → Prop} (hK : ∀ w', Ext w w' → K true w') :
    callT Tryz.prog 36 #[.pointer (some (at0 p)), .slice s.a s.len s.cap] (.one (.one .bool)) K w := by
  refine F36_calls ?_
  unfold F36
  have few := h.few; have lims := h.lims
  have hal := hal e M
  generalize hA : atoms (aOf e M) = A at *
  have hlen : A.length = s.len := by have := hs.len1; rwa [List.length_map] at this
  refine join_r (fun _ W => Ext w W) ?_ (fun _ W h => hK W h)
  refine sloop_r (fun x W => ∃ i : Nat, i ≤ A.length ∧ x = (((nb A i : Nat) : Int), (i : Int), ()) ∧ Ext w W) (fun x _ => ((A.length : Int) - x.2.1).toNat) ⟨0, Nat.zero_le _, by rw [nb_zero]; rfl, Ext.refl w⟩ ?_
  rintro _ W ⟨i, hi, rfl, e1⟩
  refine sif_r (fun hc => ?_) (fun _ => e1)
  simp only [decide_eq_true_eq] at hc
  have hil : i < A.length := by omega
  obtain ⟨a, ha⟩ : ∃ a, A[i]? = some a := ⟨_, List.getElem?_eq_getElem hil⟩
  have hnl := nb_le A i
  have ew : IntKind.wrap .i64 ((i : Int) + 1) = ((i + 1 : Nat) : Int) := by rw [wrap64 (by omega) (by omega)]; omega
  have ewn : IntKind.wrap .i64 (((nb A i : Nat) : Int) + 1) = ((nb A i + 1 : Nat) : Int) := by rw [wrap64 (by omega) (by omega)]; omega
  rw [ew, ewn]
  have hs1 := hs.ext e1
  have rd : ∀ {K : Addr → Int → World → Prop}, (∀ p, K p a W) → ix s.a s.len (i : Int) (fun p => ld (.int .i64) (p.add (scaled (Int.toNat (i : Int)) 1)) (K p)) W := fun hk => ix_ld (c := .int .i64) (xs := A) hs1 (by omega) (x := a) (by rw [Int.toNat_natCast]; exact ha) hk
  refine join_r (fun x W' => x = (((nb A (i + 1) : Nat) : Int), ()) ∧ Ext w W') ?_ ?_
  · refine join_r (fun x W' => x = (isb A i, ()) ∧ W = W') ?_ ?_
    · refine rd fun p1 => sif_r (fun h10 => ⟨tupb ?_, rfl⟩) (fun h10 => rd fun p2 => sif_r (fun h13 => sif_r (fun he => ⟨tupb ?_, rfl⟩) (fun he => ?_)) (fun h13 => ⟨tupb ?_, rfl⟩))
      all_goals simp only [beq_iff_eq, beq_eq_false_iff_ne, ne_eq, true_iff, Bool.false_eq_true, false_iff] at *
      · exact (isb_iff ha).2 (.inl h10)
      · exact (isb_iff ha).2 (.inr ⟨h13, by rw [List.getElem?_eq_none (by omega)]; intro h; cases h⟩)
      · obtain ⟨b, hb⟩ : ∃ b, A[i + 1]? = some b := ⟨_, List.getElem?_eq_getElem (by omega)⟩
        refine ix_ld (c := .int .i64) (xs := A) hs1 (by omega) (x := b) (by rw [Int.toNat_natCast]; exact hb) fun p3 => ⟨tupb ?_, rfl⟩
        rw [isb_iff ha, hb, bne_iff_ne, ne_eq, ne_eq, Option.some.injEq]
        exact ⟨fun h => .inr ⟨h13, h⟩, fun h => h.elim (fun h => absurd h h10) fun h => h.2⟩
      · rw [isb_iff ha]
        exact fun h => h.elim h10 fun h => h13 h.1
    rintro _ _ ⟨rfl, rfl⟩
    refine sif_r (fun hb => ?_) (fun hb => ?_)
    · have hb : isb A i = true := hb
      have hn : nb A (i + 1) = nb A i + 1 := by rw [nb_succ, hb]; rfl
      refine join_r (fun x W' => x = (false, ()) ∧ Ext w W') ?_ ?_
      · refine breaks_call (h.ext e1) fun w2 e2 => ?_
        rw [hA, Int.toNat_natCast, hn]
        refine sif_r (fun h => by simp at h) (fun _ => seek_call (h.ext (e1.trans e2)) fun w3 e3 => ⟨?_, (e1.trans e2).trans e3⟩)
        rw [hA, skI_nat, sk_isb hb]
        refine tupb ?_
        simp
      rintro _ w4 ⟨rfl, e4⟩
      refine sif_false ⟨?_, e4⟩
      rw [hn]
    · have hb : isb A i = false := hb
      have hn : nb A (i + 1) = nb A i := by rw [nb_succ, hb]; rfl
      exact ⟨by rw [hn], e1⟩
  · rintro _ W' ⟨rfl, e2⟩
    exact ⟨⟨i + 1, by omega, rfl, e2⟩, by dsimp only; omega⟩
theorem enc_of (x : Int) : ∃ e : Enc, IntKind.wrap .i64 ((1 : Int) + (IntKind.wrap .i64 ((BitVec.toNat (BitVec.ofInt (IntKind.bits .i64) x &&& BitVec.ofInt (IntKind.bits .i64) (3 : Int)) : Nat) : Int))) = e.num := by
  have h : BitVec.toNat (BitVec.ofInt (IntKind.bits .i64) x &&& BitVec.ofInt (IntKind.bits .i64) (3 : Int)) ≤ 3 := by
    rw [BitVec.toNat_and]
    exact Nat.le_trans Nat.and_le_right (by decide)
  generalize BitVec.toNat (BitVec.ofInt (IntKind.bits .i64) x &&& BitVec.ofInt (IntKind.bits .i64) (3 : Int)) = n at h
  match n, h with
  | 0, _ => exact ⟨.u8, by decide⟩
  | 1, _ => exact ⟨.le, by decide⟩
  | 2, _ => exact ⟨.be, by decide⟩
  | 3, _ => exact ⟨.l1, by decide⟩
theorem ix_byX {s : Sl} {l : Bs} {n : Int} {K : Addr → Int → World → Prop} (h : SlX w s 1 (bv l)) (h0 : 0 ≤ n) {b : UInt8} (hb : l[n.toNat]? = some b) (hK : ∀ p, K p (b.toNat : Int) w) :
    ix s.a s.len n (fun p => ld (.int .u8) (p.add (scaled (Int.toNat n) 1)) (K p)) w := by
  rw [bv_map] at h
  exact ix_ldX (c := .int .u8) (xs := l.map fun b => (b.toNat : Int)) h h0 (x := (b.toNat : Int)) (by rw [List.getElem?_map, hb]; rfl) hK
abbrev stT (enc : Int) (s : Sl) : Cells.T c24 := (enc, s, ())
structure Bth (w : World) (N p : Nat) (e : Enc) (O : Nat → Prop) (M : Parts) (s : Sl) : Prop where
  txt : Txt w p e 65536 0 O M
  lst : SlOwn w N s 3 1 (iv (atoms (aOf e M)))
  new : ∀ k, O k → N ≤ k
theorem opened_call {enc : Int} {s : Sl} {l : Bs} (hs : SlX w s 1 (bv l)) (hl : l.length < 2 ^ 60) {K : (Option Addr × Sl × Unit) × Bool × Unit → World → Prop}
    (hK : ∀ p e O M s' w', Bth w' w.heap.size p e O M s' → Ext w w' → (l.length ≤ 50000 → aOf e M = ats e l) → IntKind.wrap .i64 ((1 : Int) + (IntKind.wrap .i64 ((BitVec.toNat (BitVec.ofInt (IntKind.bits .i64) enc &&& BitVec.ofInt (IntKind.bits .i64) (3 : Int)) : Nat) : Int))) = e.num → K ((some (at0 p), s', ()), true, ()) w') :
    callT Tryz.prog 16 #[.agg (Cells.vals c24 (stT enc s)).toArray] (.tup [(.agg c28), (.one .bool)]) K w := by
  refine F16_calls (a0 := stT enc s) ?_
  unfold F16
  have hlen : l.length = s.len := by have := hs.len1; rwa [List.length_map] at this
  let Z : Obj := .cells #[.pointer none, .slice none 0 0] 28 (0, 0)
  let Q : Obj := .cells (Cells.vals c24 (stT enc s)).toArray 24 (0, 0)
  refine (St.start w).newO fun b1 w1 S1 e1 => S1.newO fun b2 w2 S2 e2 => ?_
  have S2 : St (fun _ => False) w w2 [(b2, Z), (b1, Q)] := S2
  refine S2.ld 1 rfl (x := enc) rfl ?_
  refine join_r (fun x W => ∃ m, m = min l.length 50000 ∧ SlOwn W w.heap.size x.1 5 1 (bv (l.take m)) ∧ St (fun _ => False) w W [(b2, Z), (b1, Q)]) ?_ ?_
  · refine sloop_r (fun x W => ∃ i : Nat, i ≤ l.length ∧ i ≤ 50000 ∧ x.2 = ((i : Int), ()) ∧ SlOwn W w2.heap.size x.1 5 1 (bv (l.take i)) ∧ St (fun _ => False) w W [(b2, Z), (b1, Q)] ∧ w2.heap.size ≤ W.heap.size) (fun x _ => ((l.length : Int) - x.2.1).toNat) ⟨0, Nat.zero_le _, Nat.zero_le _, rfl, SlOwn.nil _ _ _ _, S2, Nat.le_refl _⟩ ?_
    rintro ⟨r, _⟩ W ⟨i, hi, hi2, rfl, hr, SW, hW⟩
    dsimp only at hr ⊢
    have hrl := hr.len1
    rw [List.length_map, List.length_take] at hrl
    refine join_r (fun x W' => x = (decide (i < l.length ∧ i < 50000), ()) ∧ W = W') ?_ ?_
    · refine SW.ld 1 rfl (x := s) rfl (sif_r (fun h => ⟨tupb ?_, rfl⟩) (fun h => ⟨tupb ?_, rfl⟩))
      all_goals simp only [decide_eq_true_eq, decide_eq_false_iff_not, Bool.false_eq_true, false_iff] at *
      all_goals omega
    rintro _ _ ⟨rfl, rfl⟩
    refine sif_r (fun hc => ?_) (fun hc => ?_)
    · simp only [decide_eq_true_eq] at hc
      obtain ⟨b, hb⟩ : ∃ b, l[i]? = some b := ⟨_, List.getElem?_eq_getElem hc.1⟩
      have hsW : SlX W s 1 (bv l) := hs.ext SW.upd
      refine SW.ld 1 rfl (x := s) rfl (ix_byX hsW (by omega) (b := b) (by rw [Int.toNat_natCast]; exact hb) fun q => newO_r fun b14 w4 e4 n4 hb4 _ => ?_)
      have hbox : SlX w4 ⟨some (at0 b14), 1, 1⟩ 1 (bv [b]) := (SlIn.of_box n4 (n := 1) (sz := 1) rfl).x
      refine append_rx EBy EBy.ts_ (x := ⟨some (at0 b14), 1, 1⟩) (hr.ext e4) hbox (bv_one [b]) (by
        show (r.len + 1 + (r.len + 1) / 4 + 512) * 1 ≤ 2 ^ 48
        omega) (by have := e4.size; omega) fun r' w5 o5 l5 u5 k5 => ?_
      have ew : IntKind.wrap .i64 ((i : Int) + 1) = ((i + 1 : Nat) : Int) := by rw [wrap64 (by omega) (by omega)]; omega
      rw [ew]
      have e5 : bv (l.take i) ++ bv [b] = bv (l.take (i + 1)) := by rw [List.take_add_one, hb]; simp [bv]
      rw [e5] at o5
      refine ⟨⟨i + 1, by omega, by omega, rfl, o5, (SW.ext e4).fresh u5 (fun k hk => .inr ?_) (fun x hx hk => ?_), ?_⟩, by omega⟩
      · have := hr.blk_ge hk; have := S2.upd.size; omega
      · have h1 := hr.blk_ge hk
        have h2 := S2.lt x hx
        omega
      · have := e4.size; have := u5.size; omega
    · simp only [decide_eq_false_iff_not] at hc
      exact ⟨i, by omega, hr.mono S2.upd.size, SW⟩
  rintro ⟨d, _⟩ w3 ⟨m, hm, hd, S3⟩
  dsimp only at hd ⊢
  obtain ⟨e, he⟩ := enc_of enc
  rw [he]
  have hml : (l.take m).length ≤ 50000 := by rw [List.length_take]; omega
  refine decode_call (e := e) hd.in (by omega) fun a w4 o4 e4 => ?_
  refine open_call (e := e) (lim := 65536) (hd.in.ext e4) (by omega) (by decide) fun p O M w5 tx hM hB e5 hO => ?_
  have S5 := (S3.ext e4).ext e5
  have o5 := o4.ext e5
  rw [← hM] at o5
  refine join_r (fun x W => x = (false, ()) ∧ w5 = W) (sif_r (fun h => by simp at h) (fun _ => ⟨rfl, rfl⟩)) ?_
  rintro _ _ ⟨rfl, rfl⟩
  refine sif_false (lined_call tx o5.in fun w6 e6 => ?_)
  have S6 := S5.ext e6
  have h3 := S3.upd.size
  have h4 := e4.size
  refine S6.aggSt 0 rfl rfl rfl rfl fun w7 S7 u7 => S7.lds 0 (some (at0 p), a, ()) rfl (hK p e O M a w7 ⟨?_, ?_, fun k hk => ?_⟩ S7.upd (fun hlen => ?_) he)
  · refine (tx.ext e6).upd u7 (fun k hk hS => ?_) (NoTy.box (S6.at_ 0 rfl) (by decide))
    have := hO k hk
    have hb2 := S5.lt _ List.mem_cons_self
    have hb2' := S3.lt _ List.mem_cons_self
    simp only at hb2'
    omega
  · exact ((o5.ext e6).mono h3).box (S6.at_ 0 rfl) (by decide) u7
  · have := hO k hk; omega
  · rw [hM, List.take_of_length_le (by omega)]
end
end Go.Proofs.YtabcpghhfeplaaaGreat
set_option linter.unusedSimpArgs false
set_option linter.unusedVariables false
set_option maxRecDepth 100000
namespace Go.Proofs.YtabcpghhfeplaaaGreat
open Trx Gly Clu Lns Obx
namespace Obx
def endP (L : List Nat) (i : Nat) : Nat := i + 1 + ((L.drop (i + 1)).takeWhile fun s => s == L.getD i 0).length
def beginP (L : List Nat) : Nat → Nat
  | 0 => 0
  | i + 1 => if L.getD i 0 = L.getD (i + 1) 0 then beginP L i else i + 1
def innerGo (L : List Nat) : Nat → Nat → Option Nat
  | _, 0 => none
  | j, 1 => if j < L.length then some (endP L j) else none
  | j, k + 2 => if j < L.length then innerGo L (endP L j) (k + 1) else none
def innerP (L : List Nat) (i k : Nat) : Option (Nat × Nat) := (innerGo L i k).map fun j => (beginP L i, j)
def overP (L : List Nat) (j : Nat) : Nat := if j < L.length ∧ L.getD j 0 = 0 then endP L j else j
def aroundGo (L : List Nat) : Nat → Nat → Option Nat
  | _, 0 => none
  | j, 1 => if overP L j < L.length then some (endP L (overP L j)) else none
  | j, k + 2 => if overP L j < L.length then aroundGo L (endP L (overP L j)) (k + 1) else none
def aroundP (L : List Nat) (i k : Nat) : Option (Nat × Nat) := (aroundGo L i k).map fun j =>
  if L.getD i 0 = 0 then (beginP L i, j) else if j < L.length ∧ L.getD j 0 = 0 then (beginP L i, endP L j)
  else if 0 < beginP L i ∧ L.getD (beginP L i - 1) 0 = 0 then (beginP L (beginP L i - 1), j) else (beginP L i, j)
theorem endP_gt (L : List Nat) (i : Nat) : i < endP L i := by unfold endP; omega
theorem endP_le {L : List Nat} {i : Nat} (h : i < L.length) : endP L i ≤ L.length := by
  unfold endP
  have := (List.takeWhile_sublist (fun s => s == L.getD i 0) (l := L.drop (i + 1))).length_le
  rw [List.length_drop] at this
  omega
theorem tw_mem {α : Type} {p : α → Bool} : ∀ {l : List α} {x : α}, x ∈ l.takeWhile p → p x = true
  | [], _, h => by simp at h
  | y :: r, x, h => by
    rw [List.takeWhile_cons] at h
    split at h
    · rename_i hy
      rcases List.mem_cons.1 h with rfl | h
      · exact hy
      · exact tw_mem h
    · cases h
theorem endP_same {L : List Nat} {i j : Nat} (h1 : i < j) (h2 : j < endP L i) (hj : j < L.length) : L.getD j 0 = L.getD i 0 := by
  unfold endP at h2
  have hlt : j - (i + 1) < ((L.drop (i + 1)).takeWhile fun s => s == L.getD i 0).length := by omega
  have hm := List.getElem_mem hlt
  have ht := tw_mem hm
  have hp : ((L.drop (i + 1)).takeWhile fun s => s == L.getD i 0) <+: L.drop (i + 1) := List.takeWhile_prefix _
  have he := hp.getElem hlt
  rw [he, List.getElem_drop] at ht
  have : i + 1 + (j - (i + 1)) = j := by omega
  simp only [this, beq_iff_eq] at ht
  rw [List.getD_eq_getElem?_getD, List.getElem?_eq_getElem hj]
  exact ht
theorem endP_stop {L : List Nat} {i : Nat} (h : endP L i < L.length) : L.getD (endP L i) 0 ≠ L.getD i 0 := by
  unfold endP at h ⊢
  generalize hn : ((L.drop (i + 1)).takeWhile fun s => s == L.getD i 0).length = n at *
  have hlt : n < (L.drop (i + 1)).length := by rw [List.length_drop]; omega
  have key : ∀ (p : Nat → Bool) (l : List Nat) (h : (l.takeWhile p).length < l.length), p l[(l.takeWhile p).length] = false := by
    intro p l
    induction l with
    | nil => intro h; simp at h
    | cons x r ih =>
      intro h
      cases hx : p x with
      | false => simp [List.takeWhile_cons, hx]
      | true =>
        simp only [List.takeWhile_cons, hx, if_true, List.length_cons] at h ⊢
        simpa using ih (by omega)
  have := key (fun s => s == L.getD i 0) (L.drop (i + 1)) (by rw [hn]; exact hlt)
  simp only [hn, List.getElem_drop, beq_eq_false_iff_ne] at this
  rw [List.getD_eq_getElem?_getD, List.getElem?_eq_getElem (by omega)]
  exact this
theorem endP_eq {L : List Nat} {i e : Nat} (h1 : i < e) (h2 : e ≤ L.length) (hs : ∀ j, i < j → j < e → L.getD j 0 = L.getD i 0) (ht : e < L.length → L.getD e 0 ≠ L.getD i 0) : endP L i = e := by
  have hle := endP_le (L := L) (i := i) (by omega)
  have hgt := endP_gt L i
  rcases Nat.lt_trichotomy (endP L i) e with h | h | h
  · exact absurd (hs _ hgt h) (endP_stop (by omega))
  · exact h
  · exact absurd (endP_same h1 h (by omega)) (ht (by omega))
theorem beginP_le (L : List Nat) : ∀ i, beginP L i ≤ i
  | 0 => Nat.le_refl _
  | i + 1 => by rw [beginP]; have := beginP_le L i; split <;> omega
theorem beginP_same (L : List Nat) : ∀ i j, beginP L i ≤ j → j ≤ i → L.getD j 0 = L.getD i 0
  | 0, j, _, h => by have : j = 0 := by omega
                     rw [this]
  | i + 1, j, h1, h2 => by
    rw [beginP] at h1
    split at h1
    · rename_i he
      by_cases hj : j = i + 1
      · rw [hj]
      · rw [beginP_same L i j h1 (by omega), he]
    · have : j = i + 1 := by omega
      rw [this]
theorem beginP_stop (L : List Nat) : ∀ i, 0 < beginP L i → L.getD (beginP L i - 1) 0 ≠ L.getD (beginP L i) 0
  | 0, h => absurd h (Nat.lt_irrefl _)
  | i + 1, h => by
    rw [beginP] at h ⊢
    split
    · rename_i he; rw [if_pos he] at h; exact beginP_stop L i h
    · rename_i he; rw [Nat.add_sub_cancel]; exact he
theorem innerGo_le {L : List Nat} : ∀ {k j t : Nat}, innerGo L j k = some t → j < t ∧ t ≤ L.length
  | 0, _, _, h => by simp [innerGo] at h
  | 1, j, t, h => by
    rw [innerGo] at h
    split at h
    · cases h; exact ⟨endP_gt L j, endP_le ‹_›⟩
    · cases h
  | k + 2, j, t, h => by
    rw [innerGo] at h
    split at h
    · have := innerGo_le h; have := endP_gt L j; omega
    · cases h
theorem overP_ge (L : List Nat) (j : Nat) : j ≤ overP L j := by unfold overP; split; exact Nat.le_of_lt (endP_gt L j); omega
theorem aroundGo_le {L : List Nat} : ∀ {k j t : Nat}, aroundGo L j k = some t → j < t ∧ t ≤ L.length
  | 0, _, _, h => by simp [aroundGo] at h
  | 1, j, t, h => by
    rw [aroundGo] at h
    split at h
    · cases h; have := overP_ge L j; have := endP_gt L (overP L j); exact ⟨by omega, endP_le ‹_›⟩
    · cases h
  | k + 2, j, t, h => by
    rw [aroundGo] at h
    split at h
    · have := aroundGo_le h; have := overP_ge L j; have := endP_gt L (overP L j); omega
    · cases h
theorem innerP_le {L : List Nat} {i k f t : Nat} (h : innerP L i k = some (f, t)) : f ≤ i ∧ i < t ∧ t ≤ L.length := by
  unfold innerP at h
  obtain ⟨j, hj, he⟩ := Option.map_eq_some_iff.1 h
  cases he
  have := innerGo_le hj; have := beginP_le L i; omega
theorem aroundP_le {L : List Nat} {i k f t : Nat} (h : aroundP L i k = some (f, t)) : f ≤ i ∧ i < t ∧ t ≤ L.length := by
  unfold aroundP at h
  obtain ⟨j, hj, he⟩ := Option.map_eq_some_iff.1 h
  have := aroundGo_le hj; have := beginP_le L i
  split at he
  · cases he; omega
  · split at he
    · cases he
      rename_i h2
      have := endP_gt L j; have := endP_le h2.1; omega
    · split at he
      · cases he
        have := beginP_le L (beginP L i - 1); omega
      · cases he; omega
noncomputable def lineP (A : List Int) (at_ : Int) : Ln := (lnAt A (nb A at_.toNat)).getD ⟨0, 0, 0, 0⟩
noncomputable def lineC (A : List Int) (l : Ln) : List Cel := cels ((A.drop l.from_).take (l.to_ - l.from_)) l.from_
noncomputable def hereI (C : List Cel) (at_ : Int) : Nat := if firstI C at_ < C.length then firstI C at_ else C.length - 1
noncomputable def sortsW (C : List Cel) (big : Bool) : List Nat := C.map fun c => if big ∧ c.kind ≠ 0 then 2 else c.kind
noncomputable def pickP (out : Bool) (L : List Nat) (i k : Nat) : Option (Nat × Nat) := if out then aroundP L i k else innerP L i k
noncomputable def wordsP (A : List Int) (at_ kind count : Int) : (Int × Int × Int) × Int :=
  if checked A.length at_ kind count 61 64 ≠ 0 then ((0, 0, 0), checked A.length at_ kind count 61 64) else
  let C := lineC A (lineP A at_)
  if C.length = 0 then ((0, 0, 0), 90) else
  match pickP (decide (kind = 62 ∨ kind = 64)) (sortsW C (decide (kind = 63 ∨ kind = 64))) (hereI C at_) (times count) with
  | none => ((0, 0, 0), 90)
  | some (f, t) => ((((C[f]?.map (·.from_)).getD 0 : Nat), ((C[t - 1]?.map (·.to_)).getD 0 : Nat), 0), 0)
def pairL (q : Int) (i : Nat) : List Cel → Nat → Option Nat → Nat → Option (Nat × Nat)
  | [], _, _, _ => none
  | c :: r, j, o, s => let s' := if c.is 92 then s + 1 else 0
    if (c.is q && s % 2 == 0) = false then pairL q i r (j + 1) o s' else
    match o with
    | none => pairL q i r (j + 1) (some j) s'
    | some k => if i ≤ j then some (k, j) else pairL q i r (j + 1) none s'
def blanksUp (C : List Cel) (j : Nat) : Nat := j + ((C.drop j).takeWhile fun c => c.kind == 0).length
def blanksDown (C : List Cel) : Nat → Nat
  | 0 => 0
  | j + 1 => if (C[j]?.map (·.kind)) = some 0 then blanksDown C j else j + 1
noncomputable def quotesP (A : List Int) (at_ kind count arg : Int) : (Int × Int × Int) × Int :=
  if checked A.length at_ kind count 65 66 = 1 ∨ (arg ≠ 34 ∧ arg ≠ 39 ∧ arg ≠ 96) then ((0, 0, 0), 1) else
  if checked A.length at_ kind count 65 66 ≠ 0 then ((0, 0, 0), checked A.length at_ kind count 65 66) else
  let C := lineC A (lineP A at_)
  match pairL arg (hereI C at_) C 0 none 0 with
  | none => ((0, 0, 0), 90)
  | some (one, two) =>
    if kind = 65 ∧ count < 2 then ((((C[one]?.map (·.to_)).getD 0 : Nat), ((C[two]?.map (·.from_)).getD 0 : Nat), 0), 0) else
    let t := if kind = 66 then blanksUp C (two + 1) else two + 1
    let f := if kind = 66 ∧ t = two + 1 then blanksDown C one else one
    ((((C[f]?.map (·.from_)).getD 0 : Nat), ((C[t - 1]?.map (·.to_)).getD 0 : Nat), 0), 0)
def lnAll (A : List Int) : List Ln := (List.range (lnN A)).map fun i => (lnAt A i).getD ⟨0, 0, 0, 0⟩
noncomputable def sortLn (A : List Int) (l : Ln) : Nat := if (cels ((A.drop l.from_).take (l.to_ - l.from_)) 0).any (fun c => c.kind != 0) then 1 else 0
noncomputable def sortsP (A : List Int) : List Nat := (lnAll A).map (sortLn A)
noncomputable def parasP (A : List Int) (at_ kind count : Int) : (Int × Int × Int) × Int :=
  if checked A.length at_ kind count 69 70 ≠ 0 then ((0, 0, 0), checked A.length at_ kind count 69 70) else
  if lnN A ≤ nb A at_.toNat then ((0, 0, 0), 90) else
  match pickP (decide (kind = 70)) (sortsP A) (nb A at_.toNat) (times count) with
  | none => ((0, 0, 0), 90)
  | some (f, t) => (((((lnAll A)[f]?.map (·.from_)).getD 0 : Nat), (((lnAll A)[t - 1]?.map (·.next)).getD 0 : Nat), 1), 0)
noncomputable def takeP (A : List Int) (at_ kind count arg : Int) : (Int × Int × Int) × Int :=
  if kind ≤ 64 then wordsP A at_ kind count else if kind ≤ 66 then quotesP A at_ kind count arg else if kind ≤ 68 then blocksP A at_ kind count arg else parasP A at_ kind count
end Obx
end Go.Proofs.YtabcpghhfeplaaaGreat
set_option linter.unusedSimpArgs false
set_option linter.unusedVariables false
set_option maxRecDepth 100000
namespace Go.Proofs.YtabcpghhfeplaaaGreat
open Trx Gly Clu Lns Obx
namespace Obx
structure Good (A : List Int) (s : Int × Int × Int) : Prop where
  lo : 0 ≤ s.1
  le : s.1 ≤ s.2.1
  hi : s.2.1 ≤ A.length
  b1 : bk A s.1.toNat = true
  b2 : bk A s.2.1.toNat = true
structure LcOk (A : List Int) (l : Ln) (c : Cel) : Prop where
  lo : l.from_ ≤ c.from_
  lt : c.from_ < c.to_
  hi : c.to_ ≤ l.to_
  b1 : bk A c.from_ = true
  b2 : bk A c.to_ = true
theorem inner_one {L : List Nat} {i : Nat} (h : i < L.length) : innerP L i 1 = some (beginP L i, endP L i) := by unfold innerP; rw [innerGo, if_pos h]; rfl
end Obx
end Go.Proofs.YtabcpghhfeplaaaGreat
set_option linter.unusedSimpArgs false
set_option linter.unusedVariables false
set_option maxRecDepth 100000
namespace Go.Proofs.YtabcpghhfeplaaaGreat
open Trx Gly Clu Lns Obx
namespace Obx
theorem begin_found {L : List Nat} {i b : Nat} (h1 : b ≤ i) (hs : ∀ j, b ≤ j → j ≤ i → L.getD j 0 = L.getD i 0) (ht : 0 < b → L.getD (b - 1) 0 ≠ L.getD b 0) : beginP L i = b := by
  have hle := beginP_le L i
  rcases Nat.lt_trichotomy (beginP L i) b with h | h | h
  · have := ht (by omega)
    rw [beginP_same L i (b - 1) (by omega) (by omega), hs b (Nat.le_refl _) h1] at this
    exact absurd rfl this
  · exact h
  · have := beginP_stop L i (by omega)
    rw [hs _ (by omega) (by omega), hs _ (by omega) hle] at this
    exact absurd rfl this
end Obx
end Go.Proofs.YtabcpghhfeplaaaGreat
set_option linter.unusedSimpArgs false
set_option linter.unusedVariables false
set_option maxRecDepth 100000
namespace Go.Proofs.YtabcpghhfeplaaaGreat
open Go Go.Vx Cdc Trx Gly Clu Lns Obx
section
variable {w w' : World} {S : Nat → Prop} {p : Nat} {e : Enc} {lim na : Nat} {O : Nat → Prop} {M : Parts}
theorem func_m {g : FuncId} {a : Value} {args : Array Value} {t : RTy} {K : t.T → World → Prop} (hf : ((Tryz.prog.funcs[g]?).map fun fn => (fn.body.isNone, fn.name == "runtime.NumGoroutine")) = some (false, false)) (h : callT Tryz.prog g (#[a] ++ args) t K w) :
    callX Tryz.prog (do let d ← Deferred.ofValue (.func (.func g) #[a] #[]) args; invoke d.target d.args : Sem Next) t K w := by
  refine .inl ⟨g, #[a] ++ args, ?_, h⟩
  have := run_callFunc (P := Tryz.prog) (f := g) (args := #[a] ++ args) hf w
  simp only [Deferred.ofValue, pure_bind, invoke]
  have e : (#[a] ++ args ++ #[] : Array Value) = #[a] ++ args := by simp
  first
    | exact this
    | (rw [e]; exact this)
def SortX (w : World) (f : Value) (L : List Nat) : Prop := ∀ (W : World) (i s : Nat) (K : Int → World → Prop), Ext w W → L[i]? = some s → (∀ W', Ext W W' → K (s : Int) W') →
  callX Tryz.prog (do let d ← Deferred.ofValue f #[.int .i64 (i : Int)]; invoke d.target d.args : Sem Next) (.one (.one (.int .i64))) K W
theorem SortX.ext {f : Value} {L : List Nat} (h : SortX w f L) (x : Ext w w') : SortX w' f L := fun W i s K e hs hK => h W i s K (x.trans e) hs hK
abbrev rowT (n : Nat) (f : Value) : Cells.T c89 := ((n : Int), f, ())
theorem get_of {L : List Nat} {j : Nat} (h : j < L.length) : L[j]? = some (L.getD j 0) := by rw [List.getD_eq_getElem?_getD, List.getElem?_eq_getElem h]; rfl
theorem rend_call {L : List Nat} {f : Value} {i : Nat} (hf : SortX w f L) (h1 : isOne f = true) (hi : i < L.length) (hl : L.length < 2 ^ 60) {K : Int → World → Prop} (hK : ∀ w', Ext w w' → K ((endP L i : Nat) : Int) w') :
    callT Tryz.prog 79 #[.agg (Cells.vals c89 (rowT L.length f)).toArray, .int .i64 (i : Int)] (.one (.one (.int .i64))) K w := by
  refine F79_calls (a0 := rowT L.length f) ?_
  unfold F79
  refine (St.start w).newO fun b w1 S1 e1 => ?_
  let Q : Obj := .cells #[.int .i64 ((L.length : Nat) : Int), f] 89 (0, 0)
  have S1 : St (fun _ => False) w w1 [(b, Q)] := S1
  have ew : IntKind.wrap .i64 ((i : Int) + 1) = ((i + 1 : Nat) : Int) := by rw [wrap64 (by omega) (by omega)]; omega
  rw [ew]
  refine join_r (fun x W => x = (((endP L i : Nat) : Int), ()) ∧ Ext w W) ?_ (fun x W h => by obtain ⟨rfl, h⟩ := h; exact hK W h)
  refine sloop_r (fun x W => ∃ j : Nat, i < j ∧ j ≤ L.length ∧ x = ((j : Int), ()) ∧ St (fun _ => False) w W [(b, Q)] ∧ ∀ q, i < q → q < j → L.getD q 0 = L.getD i 0) (fun x _ => ((L.length : Int) - x.1).toNat) ⟨i + 1, by omega, by omega, rfl, S1, fun q h1 h2 => by omega⟩ ?_
  rintro _ W ⟨j, hij, hjl, rfl, SW, hs⟩
  refine join_r (fun x W' => x = (decide (j < L.length ∧ L.getD j 0 = L.getD i 0), ()) ∧ St (fun _ => False) w W' [(b, Q)]) ?_ ?_
  · refine SW.drew fun w2 S2 e2 _ => S2.ld 0 rfl (x := ((L.length : Nat) : Int)) rfl (sif_r (fun h => ?_) (fun h => ⟨tupb ?_, S2⟩))
    · simp only [decide_eq_true_eq] at h
      refine S2.ld 0 rfl (c := .any) (x := f) rfl (S2.ld 0 rfl (c := .any) (x := f) rfl ?_)
      refine hf _ j _ _ S2.upd (get_of (by omega)) fun w3 e3 => (S2.ext e3).keep 0 rfl (v := f) rfl ?_
      refine hf _ i _ _ (S2.ext e3).upd (get_of hi) fun w4 e4 => ⟨tupb ?_, (S2.ext e3).ext e4⟩
      simp only [beq_iff_eq, decide_eq_true_eq]
      omega
    · simp only [decide_eq_false_iff_not] at h
      simp only [Bool.false_eq_true, decide_eq_true_eq, false_iff]
      omega
  rintro _ w2 ⟨rfl, S2⟩
  refine sif_r (fun h => ?_) (fun h => ?_)
  · simp only [decide_eq_true_eq] at h
    have ew : IntKind.wrap .i64 ((j : Int) + 1) = ((j + 1 : Nat) : Int) := by rw [wrap64 (by omega) (by omega)]; omega
    rw [ew]
    refine ⟨⟨j + 1, by omega, by omega, rfl, S2, fun q h1 h2 => ?_⟩, by omega⟩
    by_cases hq : q = j
    · rw [hq]; exact h.2
    · exact hs q h1 (by omega)
  · simp only [decide_eq_false_iff_not] at h
    refine ⟨?_, S2.upd⟩
    rw [endP_eq hij hjl hs fun h2 h3 => h ⟨h2, h3⟩]
theorem rbegin_call {L : List Nat} {f : Value} {i : Nat} (hf : SortX w f L) (h1 : isOne f = true) (hi : i < L.length) (hl : L.length < 2 ^ 60) {K : Int → World → Prop} (hK : ∀ w', Ext w w' → K ((beginP L i : Nat) : Int) w') {n : Nat} :
    callT Tryz.prog 80 #[.agg (Cells.vals c89 (rowT n f)).toArray, .int .i64 (i : Int)] (.one (.one (.int .i64))) K w := by
  refine F80_calls (a0 := rowT n f) ?_
  unfold F80
  refine (St.start w).newO fun b w1 S1 e1 => ?_
  let Q : Obj := .cells #[.int .i64 (n : Int), f] 89 (0, 0)
  have S1 : St (fun _ => False) w w1 [(b, Q)] := S1
  refine join_r (fun x W => x = (((beginP L i : Nat) : Int), ()) ∧ Ext w W) ?_ (fun x W h => by obtain ⟨rfl, h⟩ := h; exact hK W h)
  refine sloop_r (fun x W => ∃ j : Nat, j ≤ i ∧ x = ((j : Int), ()) ∧ St (fun _ => False) w W [(b, Q)] ∧ beginP L j = beginP L i) (fun x _ => x.1.toNat) ⟨i, Nat.le_refl _, rfl, S1, rfl⟩ ?_
  rintro _ W ⟨j, hji, rfl, SW, hb⟩
  refine join_r (fun x W' => x = (decide (0 < j ∧ L.getD (j - 1) 0 = L.getD j 0), ()) ∧ St (fun _ => False) w W' [(b, Q)]) ?_ ?_
  · refine SW.drew fun w2 S2 e2 _ => sif_r (fun h => ?_) (fun h => ⟨tupb ?_, S2⟩)
    · simp only [decide_eq_true_eq, gt_iff_lt] at h
      have ew : IntKind.wrap .i64 ((j : Int) - 1) = ((j - 1 : Nat) : Int) := by rw [wrap64 (by omega) (by omega)]; omega
      rw [ew]
      refine S2.ld 0 rfl (c := .any) (x := f) rfl (S2.ld 0 rfl (c := .any) (x := f) rfl ?_)
      refine hf _ (j - 1) _ _ S2.upd (get_of (by omega)) fun w3 e3 => (S2.ext e3).keep 0 rfl (v := f) rfl ?_
      refine hf _ j _ _ (S2.ext e3).upd (get_of (by omega)) fun w4 e4 => ⟨tupb ?_, (S2.ext e3).ext e4⟩
      simp only [beq_iff_eq, decide_eq_true_eq]
      omega
    · simp only [decide_eq_false_iff_not, gt_iff_lt] at h
      simp only [Bool.false_eq_true, decide_eq_true_eq, false_iff]
      omega
  rintro _ w2 ⟨rfl, S2⟩
  refine sif_r (fun h => ?_) (fun h => ?_)
  · simp only [decide_eq_true_eq] at h
    have ew : IntKind.wrap .i64 ((j : Int) - 1) = ((j - 1 : Nat) : Int) := by rw [wrap64 (by omega) (by omega)]; omega
    rw [ew]
    refine ⟨⟨j - 1, by omega, rfl, S2, ?_⟩, by dsimp only; omega⟩
    rw [← hb]
    obtain ⟨m, rfl⟩ : ∃ m, j = m + 1 := ⟨j - 1, by omega⟩
    rw [Nat.add_sub_cancel] at h ⊢
    rw [beginP, if_pos h.2]
  · simp only [decide_eq_false_iff_not] at h
    refine ⟨?_, S2.upd⟩
    rw [← hb]
    cases j with
    | zero => rfl
    | succ m =>
      rw [Nat.add_sub_cancel] at h
      rw [beginP, if_neg fun hc => h ⟨by omega, hc⟩]
theorem innerGo_step (L : List Nat) (j m : Nat) : innerGo L j (m + 1) = if j < L.length then (if m = 0 then some (endP L j) else innerGo L (endP L j) m) else none := by
  cases m with
  | zero => simp [innerGo]
  | succ m => rw [innerGo]; simp
theorem aroundGo_step (L : List Nat) (j m : Nat) : aroundGo L j (m + 1) = if overP L j < L.length then (if m = 0 then some (endP L (overP L j)) else aroundGo L (endP L (overP L j)) m) else none := by
  cases m with
  | zero => simp [aroundGo]
  | succ m => rw [aroundGo]; simp
def pickV (r : Option (Nat × Nat)) : Int × Int × Bool × Unit := match r with
  | some (f, t) => ((f : Int), (t : Int), true, ())
  | none => (0, 0, false, ())
theorem inner_call {L : List Nat} {f : Value} {i k : Nat} (hf : SortX w f L) (h1 : isOne f = true) (hi : i < L.length) (hl : L.length < 2 ^ 60) (hk1 : 1 ≤ k) (hk : (k : Int) < 2 ^ 63) {K : Int × Int × Bool × Unit → World → Prop} (hK : ∀ w', Ext w w' → K (pickV (innerP L i k)) w') :
    callT Tryz.prog 53 #[.agg (Cells.vals c89 (rowT L.length f)).toArray, .int .i64 (i : Int), .int .i64 (k : Int)] (.tup [(.one (.int .i64)), (.one (.int .i64)), (.one .bool)]) K w := by
  refine F53_calls (a0 := rowT L.length f) ?_
  unfold F53
  unfold innerP at hK
  refine (St.start w).newO fun b w1 S1 e1 => ?_
  let Q : Obj := .cells #[.int .i64 ((L.length : Nat) : Int), f] 89 (0, 0)
  have S1 : St (fun _ => False) w w1 [(b, Q)] := S1
  refine join_r (fun x W => ∃ j : Nat, innerGo L i k = some j ∧ x = ((j : Int), ()) ∧ St (fun _ => False) w W [(b, Q)]) ?_ ?_
  · refine sloop_r (fun x W => ∃ j q : Nat, q ≤ k ∧ x = ((j : Int), (q : Int), ()) ∧ St (fun _ => False) w W [(b, Q)] ∧ j ≤ L.length ∧ (q < k → innerGo L i k = innerGo L j (k - q)) ∧ (q = k → innerGo L i k = some j)) (fun x _ => ((L.length : Int) - x.1).toNat) ⟨i, 0, Nat.zero_le _, rfl, S1, by omega, fun _ => rfl, fun h => by omega⟩ ?_
    rintro _ W ⟨j, q, hq, rfl, SW, hj, hlt, heq⟩
    refine sif_r (fun hc => ?_) (fun hc => ?_)
    · simp only [decide_eq_true_eq] at hc
      have hg := hlt (by omega)
      obtain ⟨m, hm⟩ : ∃ m, k - q = m + 1 := ⟨k - q - 1, by omega⟩
      rw [hm, innerGo_step] at hg
      refine SW.ld 0 rfl (x := ((L.length : Nat) : Int)) rfl (sif_r (fun hn => ?_) (fun hn => ?_))
      · simp only [decide_eq_true_eq, ge_iff_le] at hn
        rw [if_neg (by omega)] at hg
        have := hK W SW.upd
        rw [hg] at this
        exact this
      · simp only [decide_eq_false_iff_not, ge_iff_le] at hn
        rw [if_pos (by omega)] at hg
        refine SW.lds 0 (rowT L.length f) rfl (rend_call (hf.ext SW.upd) h1 (by omega) hl fun w2 e2 => ?_)
        have ew : IntKind.wrap .i64 ((q : Int) + 1) = ((q + 1 : Nat) : Int) := by rw [wrap64 (by omega) (by omega)]; omega
        rw [ew]
        have hgt := endP_gt L j
        have hle := endP_le (L := L) (i := j) (by omega)
        refine ⟨⟨endP L j, q + 1, by omega, rfl, SW.ext e2, hle, fun h => ?_, fun h => ?_⟩, by dsimp only; omega⟩
        · rw [if_neg (by omega)] at hg
          rw [hg]; congr 1; omega
        · rw [if_pos (by omega)] at hg
          exact hg
    · simp only [decide_eq_false_iff_not] at hc
      exact ⟨j, heq (by omega), rfl, SW⟩
  · rintro _ W ⟨j, hj, rfl, SW⟩
    refine SW.lds 0 (rowT L.length f) rfl (rbegin_call (hf.ext SW.upd) h1 hi hl fun w2 e2 => ?_)
    have := hK w2 (SW.ext e2).upd
    rw [hj] at this
    exact this
theorem around_call {L : List Nat} {f : Value} {i k : Nat} (hf : SortX w f L) (h1 : isOne f = true) (hi : i < L.length) (hl : L.length < 2 ^ 60) (hk1 : 1 ≤ k) (hk : (k : Int) < 2 ^ 63) {K : Int × Int × Bool × Unit → World → Prop} (hK : ∀ w', Ext w w' → K (pickV (aroundP L i k)) w') :
    callT Tryz.prog 54 #[.agg (Cells.vals c89 (rowT L.length f)).toArray, .int .i64 (i : Int), .int .i64 (k : Int)] (.tup [(.one (.int .i64)), (.one (.int .i64)), (.one .bool)]) K w := by
  refine F54_calls (a0 := rowT L.length f) ?_
  unfold F54
  unfold aroundP at hK
  refine (St.start w).newO fun b w1 S1 e1 => ?_
  let Q : Obj := .cells #[.int .i64 ((L.length : Nat) : Int), f] 89 (0, 0)
  have S1 : St (fun _ => False) w w1 [(b, Q)] := S1
  refine S1.ld 0 rfl (c := .any) (x := f) rfl (hf _ i _ _ S1.upd (get_of hi) fun w2 e2 => ?_)
  have S2 := S1.ext e2
  refine S2.lds 0 (rowT L.length f) rfl (rbegin_call (hf.ext S2.upd) h1 hi hl fun w3 e3 => ?_)
  have S3 := S2.ext e3
  have hbl := beginP_le L i
  have plain : ∀ {W : World} {j : Nat} {J : Bool × Unit → World → Prop}, St (fun _ => False) w W [(b, Q)] → (∀ W', St (fun _ => False) w W' [(b, Q)] → J (decide (j < L.length ∧ L.getD j 0 = 0), ()) W') →
      ld (.int .i64) (at0 b) (fun x14 => sif (decide ((j : Int) < x14)) (ld .any (⟨b, 1, none⟩ : Addr) fun x15 => callX Tryz.prog (do let d ← Deferred.ofValue x15 #[.int .i64 (j : Int)]; invoke d.target d.args : Sem Next) (.one (.one (.int .i64))) fun x16 => J ((x16 == (0 : Int)), ())) (J (false, ()))) W := by
    intro W j J SW hJ
    refine SW.ld 0 rfl (x := ((L.length : Nat) : Int)) rfl (sif_r (fun h => ?_) (fun h => ?_))
    · simp only [decide_eq_true_eq] at h
      refine SW.ld 0 rfl (c := .any) (x := f) rfl (hf _ j _ _ SW.upd (get_of (by omega)) fun w4 e4 => ?_)
      have := hJ w4 (SW.ext e4)
      have e : (((L.getD j 0 : Nat) : Int) == 0) = decide (j < L.length ∧ L.getD j 0 = 0) := by rw [Bool.eq_iff_iff, beq_iff_eq, decide_eq_true_eq]; omega
      show J ((((L.getD j 0 : Nat) : Int) == 0), ()) w4
      rw [e]; exact this
    · simp only [decide_eq_false_iff_not] at h
      have := hJ W SW
      rw [decide_eq_false (by omega)] at this
      exact this
  refine join_r (fun x W => ∃ j : Nat, aroundGo L i k = some j ∧ j ≤ L.length ∧ x = ((j : Int), ()) ∧ St (fun _ => False) w W [(b, Q)]) ?_ ?_
  · refine sloop_r (fun x W => ∃ j q : Nat, q ≤ k ∧ x = ((j : Int), (q : Int), ()) ∧ St (fun _ => False) w W [(b, Q)] ∧ j ≤ L.length ∧ (q < k → aroundGo L i k = aroundGo L j (k - q)) ∧ (q = k → aroundGo L i k = some j)) (fun x _ => ((L.length : Int) - x.1).toNat) ⟨i, 0, Nat.zero_le _, rfl, S3, by omega, fun _ => rfl, fun h => by omega⟩ ?_
    rintro _ W ⟨j, q, hq, rfl, SW, hj, hlt, heq⟩
    refine sif_r (fun hc => ?_) (fun hc => ?_)
    · simp only [decide_eq_true_eq] at hc
      have hg := hlt (by omega)
      obtain ⟨m, hm⟩ : ∃ m, k - q = m + 1 := ⟨k - q - 1, by omega⟩
      rw [hm, aroundGo_step] at hg
      have hov := overP_ge L j
      have hol : overP L j ≤ L.length := by
        unfold overP
        split
        · exact endP_le (by omega)
        · exact hj
      refine join_r (fun x W' => x = (((overP L j : Nat) : Int), ()) ∧ St (fun _ => False) w W' [(b, Q)]) ?_ ?_
      · refine join_r (fun x W' => x = (decide (j < L.length ∧ L.getD j 0 = 0), ()) ∧ St (fun _ => False) w W' [(b, Q)]) ?_ ?_
        · exact plain (j := j) (J := fun x W' => x = (decide (j < L.length ∧ L.getD j 0 = 0), ()) ∧ St (fun _ => False) w W' [(b, Q)]) SW fun W' SW' => ⟨rfl, SW'⟩
        rintro _ W1 ⟨rfl, SW1⟩
        refine sif_r (fun h => ?_) (fun h => ?_)
        · simp only [decide_eq_true_eq] at h
          refine SW1.lds 0 (rowT L.length f) rfl (rend_call (hf.ext SW1.upd) h1 h.1 hl fun w5 e5 => ⟨?_, SW1.ext e5⟩)
          unfold overP; rw [if_pos h]
        · simp only [decide_eq_false_iff_not] at h
          refine ⟨?_, SW1⟩
          unfold overP; rw [if_neg h]
      rintro _ W1 ⟨rfl, SW1⟩
      generalize overP L j = jo at *
      refine SW1.ld 0 rfl (x := ((L.length : Nat) : Int)) rfl (sif_r (fun hn => ?_) (fun hn => ?_))
      · simp only [decide_eq_true_eq, ge_iff_le] at hn
        rw [if_neg (by omega)] at hg
        have := hK W1 SW1.upd
        rw [hg] at this
        exact this
      · simp only [decide_eq_false_iff_not, ge_iff_le] at hn
        rw [if_pos (by omega)] at hg
        refine SW1.lds 0 (rowT L.length f) rfl (rend_call (hf.ext SW1.upd) h1 (by omega) hl fun w2 e2 => ?_)
        have ew : IntKind.wrap .i64 ((q : Int) + 1) = ((q + 1 : Nat) : Int) := by rw [wrap64 (by omega) (by omega)]; omega
        rw [ew]
        have hgt := endP_gt L jo
        have hle := endP_le (L := L) (i := jo) (by omega)
        refine ⟨⟨endP L jo, q + 1, by omega, rfl, SW1.ext e2, hle, fun h => ?_, fun h => ?_⟩, by dsimp only; omega⟩
        · rw [if_neg (by omega)] at hg
          rw [hg]; congr 1; omega
        · rw [if_pos (by omega)] at hg
          exact hg
    · simp only [decide_eq_false_iff_not] at hc
      exact ⟨j, heq (by omega), hj, rfl, SW⟩
  · rintro _ W ⟨j, hj, hjl, rfl, SW⟩
    have hK' : ∀ w', Ext w w' → K (pickV (some (if L.getD i 0 = 0 then (beginP L i, j) else if j < L.length ∧ L.getD j 0 = 0 then (beginP L i, endP L j)
      else if 0 < beginP L i ∧ L.getD (beginP L i - 1) 0 = 0 then (beginP L (beginP L i - 1), j) else (beginP L i, j)))) w' := fun w' x => by
      have := hK w' x
      rw [hj] at this
      exact this
    refine join_r (fun x W' => ∃ f' t', x = (((f' : Nat) : Int), ((t' : Nat) : Int), ()) ∧ St (fun _ => False) w W' [(b, Q)] ∧ (if L.getD i 0 = 0 then (beginP L i, j) else if j < L.length ∧ L.getD j 0 = 0 then (beginP L i, endP L j)
      else if 0 < beginP L i ∧ L.getD (beginP L i - 1) 0 = 0 then (beginP L (beginP L i - 1), j) else (beginP L i, j)) = (f', t')) ?_ ?_
    · refine sif_r (fun h => ?_) (fun h => ?_)
      · have h : (((L.getD i 0 : Nat) : Int) == 0) = true := h
        simp only [beq_iff_eq] at h
        exact ⟨beginP L i, j, rfl, SW, by rw [if_pos (by omega)]⟩
      have h : (((L.getD i 0 : Nat) : Int) == 0) = false := h
      simp only [beq_eq_false_iff_ne, ne_eq] at h
      rw [if_neg (by omega)]
      refine join_r (fun x W' => x = (decide (j < L.length ∧ L.getD j 0 = 0), ()) ∧ St (fun _ => False) w W' [(b, Q)]) ?_ ?_
      · exact plain (j := j) (J := fun x W' => x = (decide (j < L.length ∧ L.getD j 0 = 0), ()) ∧ St (fun _ => False) w W' [(b, Q)]) SW fun W' SW' => ⟨rfl, SW'⟩
      rintro _ W1 ⟨rfl, SW1⟩
      refine sif_r (fun h2 => ?_) (fun h2 => ?_)
      · simp only [decide_eq_true_eq] at h2
        refine SW1.lds 0 (rowT L.length f) rfl (rend_call (hf.ext SW1.upd) h1 h2.1 hl fun w5 e5 => ⟨beginP L i, endP L j, rfl, SW1.ext e5, by rw [if_pos h2]⟩)
      simp only [decide_eq_false_iff_not] at h2
      rw [if_neg h2]
      refine join_r (fun x W' => x = (decide (0 < beginP L i ∧ L.getD (beginP L i - 1) 0 = 0), ()) ∧ St (fun _ => False) w W' [(b, Q)]) ?_ ?_
      · refine sif_r (fun h3 => ?_) (fun h3 => ⟨tupb ?_, SW1⟩)
        · simp only [decide_eq_true_eq, gt_iff_lt] at h3
          have ew : IntKind.wrap .i64 (((beginP L i : Nat) : Int) - 1) = ((beginP L i - 1 : Nat) : Int) := by rw [wrap64 (by omega) (by omega)]; omega
          rw [ew]
          refine SW1.ld 0 rfl (c := .any) (x := f) rfl (hf _ (beginP L i - 1) _ _ SW1.upd (get_of (by omega)) fun w5 e5 => ⟨tupb ?_, SW1.ext e5⟩)
          simp only [beq_iff_eq, decide_eq_true_eq]; omega
        · simp only [decide_eq_false_iff_not, gt_iff_lt] at h3
          simp only [Bool.false_eq_true, decide_eq_true_eq, false_iff]; omega
      rintro _ W2 ⟨rfl, SW2⟩
      refine sif_r (fun h3 => ?_) (fun h3 => ?_)
      · simp only [decide_eq_true_eq] at h3
        have ew : IntKind.wrap .i64 (((beginP L i : Nat) : Int) - 1) = ((beginP L i - 1 : Nat) : Int) := by rw [wrap64 (by omega) (by omega)]; omega
        rw [ew]
        refine SW2.lds 0 (rowT L.length f) rfl (rbegin_call (hf.ext SW2.upd) h1 (by omega) hl fun w6 e6 => ⟨beginP L (beginP L i - 1), j, rfl, SW2.ext e6, by rw [if_pos h3]⟩)
      · simp only [decide_eq_false_iff_not] at h3
        exact ⟨beginP L i, j, rfl, SW2, by rw [if_neg h3]⟩
    · rintro _ W1 ⟨f', t', rfl, SW1, he⟩
      have := hK' W1 SW1.upd
      rw [he] at this
      exact this
end
end Go.Proofs.YtabcpghhfeplaaaGreat
set_option linter.unusedSimpArgs false
set_option linter.unusedVariables false
set_option maxRecDepth 100000
namespace Go.Proofs.YtabcpghhfeplaaaGreat
open Go Go.Vx Cdc Trx Gly Clu Lns Obx
section
variable {w w' : World} {S : Nat → Prop} {p : Nat} {e : Enc} {lim na : Nat} {O : Nat → Prop} {M : Parts}
theorem line_ok (A : List Int) {at_ : Nat} (h : at_ ≤ A.length) : lnAt A (nb A at_) = some (lineP A (at_ : Int)) ∧ LnOk A (nb A at_) (lineP A (at_ : Int)) := by
  obtain ⟨l, hl, _⟩ := ln_of A h
  have e : lineP A (at_ : Int) = l := by unfold lineP; rw [Int.toNat_natCast, hl]; rfl
  rw [e]
  exact ⟨hl, ln_ok hl⟩
theorem sub_nat (A : List Int) (i j : Nat) : sub A (i : Int) (j : Int) = (A.drop i).take (j - i) := by unfold sub; simp
noncomputable def hereV (C : List Cel) (at_ : Int) : Int := if C.length = 0 then -1 else ((hereI C at_ : Nat) : Int)
theorem here_call {at_ : Nat} (h : Txt w p e lim na O M) (hat : at_ ≤ (atoms (aOf e M)).length) {K : Sl × Int × Unit → World → Prop}
    (hK : ∀ s w', CelIn w' s (lineC (atoms (aOf e M)) (lineP (atoms (aOf e M)) at_)) → Ext w w' → K (s, hereV (lineC (atoms (aOf e M)) (lineP (atoms (aOf e M)) at_)) at_, ()) w') :
    callT Tryz.prog 51 #[.pointer (some (at0 p)), .int .i64 (at_ : Int)] (.tup [(.one .sl), (.one (.int .i64))]) K w := by
  refine F51_calls ?_
  unfold F51
  have few := h.few; have lims := h.lims
  have hal := hal e M
  refine line_call h hat fun w1 e1 => ?_
  generalize hA : atoms (aOf e M) = A at *
  have hlp : (lnAt A (nb A at_)).getD ⟨0, 0, 0, 0⟩ = lineP A (at_ : Int) := by unfold lineP; rw [Int.toNat_natCast]
  rw [hlp]
  obtain ⟨_, hok⟩ := line_ok A hat
  have ft := hok.ft; have tn := hok.tn; have nl := hok.nl
  generalize lineP A (at_ : Int) = l at *
  refine (St.start w1).newO fun b3 w2 S2 e2 => S2.aggSt 0 rfl rfl rfl rfl fun w3 S3 u3 => S3.drew fun w4 S4 e4 _ => ?_
  refine S4.ld 0 rfl (x := (l.from_ : Int)) rfl (S4.ld 0 rfl (x := (l.to_ : Int)) rfl (S4.ld 0 rfl (x := (l.from_ : Int)) rfl ?_))
  refine atoms_call (h.ext (e1.trans S4.upd)) fun s w5 o5 e5 => ?_
  rw [hA, sub_nat] at o5
  have S5 := S4.ext e5
  refine S5.keep 0 rfl (v := .int .i64 (l.from_ : Int)) rfl ?_
  refine cells_call o5.in (by rw [List.length_take, List.length_drop]; omega) (by omega) fun s2 w6 o6 e6 _ => ?_
  have x6 : Ext w w6 := e1.trans (S5.ext e6).upd
  have hcl := cels_le ((A.drop l.from_).take (l.to_ - l.from_)) l.from_
  rw [List.length_take, List.length_drop] at hcl
  change CelIn w6 s2 (lineC A l) at o6
  have hCl : (lineC A l).length ≤ A.length := by show (cels _ _).length ≤ _; omega
  generalize lineC A l = C at *
  have hlen := o6.lenC
  unfold hereV hereI at hK
  refine join_r (fun _ W => Ext w6 W ∧ firstI C at_ = C.length) ?_ ?_
  · refine sloop_r (fun x W => ∃ i : Nat, i ≤ C.length ∧ x = ((i : Int), ()) ∧ Ext w6 W ∧ ∀ (j : Nat) (c : Cel), j < i → C[j]? = some c → (c.to_ : Int) ≤ at_) (fun x _ => ((C.length : Int) - x.1).toNat) ⟨0, Nat.zero_le _, rfl, Ext.refl _, fun j c hj => absurd hj (Nat.not_lt_zero _)⟩ ?_
    rintro _ W ⟨i, hi, rfl, eW, hlo⟩
    refine sif_r (fun hc => ?_) (fun hc => ?_)
    · simp only [decide_eq_true_eq] at hc
      obtain ⟨c, hc'⟩ : ∃ c, C[i]? = some c := ⟨_, List.getElem?_eq_getElem (by omega)⟩
      refine ix_cel (o6.ext eW) hc' fun q => (St.start W).newO fun b w7 S7 e7 => S7.aggSt 0 rfl rfl rfl rfl fun w8 S8 u8 => S8.ld 0 rfl (x := (c.to_ : Int)) rfl (sif_r (fun hg => ?_) (fun hg => ?_))
      · simp only [decide_eq_true_eq] at hg
        have hf : firstI C at_ = i := firstI_eq hi hlo fun d hd => by rw [hc'] at hd; cases hd; exact hg
        have := hK s2 w8 (o6.ext (eW.trans S8.upd)) (x6.trans (eW.trans S8.upd))
        rw [if_neg (by omega), hf, if_pos (by omega)] at this
        exact this
      · simp only [decide_eq_false_iff_not] at hg
        have ew : IntKind.wrap .i64 ((i : Int) + 1) = ((i + 1 : Nat) : Int) := by rw [wrap64 (by omega) (by omega)]; omega
        rw [ew]
        refine ⟨⟨i + 1, by omega, rfl, eW.trans S8.upd, fun j d hj hd => ?_⟩, by omega⟩
        by_cases hji : j = i
        · subst hji; rw [hc'] at hd; cases hd; omega
        · exact hlo j d (by omega) hd
    · simp only [decide_eq_false_iff_not] at hc
      have : i = C.length := by omega
      refine ⟨eW, ?_⟩
      rw [firstI_eq hi hlo fun d hd => by rw [this, List.getElem?_eq_none (Nat.le_refl _)] at hd; cases hd]
      exact this
  · rintro _ W ⟨eW, hf⟩
    have := hK s2 W (o6.ext eW) (x6.trans eW)
    rw [hf, if_neg (Nat.lt_irrefl _)] at this
    have ew : IntKind.wrap .i64 (((s2.len : Nat) : Int) - 1) = (if C.length = 0 then -1 else ((C.length - 1 : Nat) : Int)) := by rw [wrap64 (by omega) (by omega)]; split <;> omega
    rw [ew]; exact this
theorem sorts_len (C : List Cel) (big : Bool) : (sortsW C big).length = C.length := List.length_map _
theorem sortX_words {C : List Cel} {big : Bool} {s : Sl} {b7 b : Nat} (hC : CelIn w s C) (h7 : w.heap[b7]? = some (.cells #[.slice s.a s.len s.cap] 68 (0, 0))) (hb : w.heap[b]? = some (.cells #[.bool big] 4 (0, 0))) :
    SortX w (.func (.func 52) #[] #[.pointer (some (at0 b)), .pointer (some (at0 b7))]) (sortsW C big) := by
  intro W i so K e hs hK
  unfold sortsW at hs
  rw [List.getElem?_map] at hs
  obtain ⟨c, hc, hso⟩ := Option.map_eq_some_iff.1 hs
  refine func_x (caps := #[.pointer (some (at0 b)), .pointer (some (at0 b7))]) (by kernel_rfl) ?_
  refine F52_calls ?_
  unfold F52
  refine join_r (fun x W' => x = (decide (big = true ∧ c.kind ≠ 0), ()) ∧ W = W') ?_ ?_
  · refine ld_r (e.ext_get hb) (x := big) rfl (sif_r (fun h => ld_r (e.ext_get h7) (x := s) rfl (ix_celF (k := .int .i64) (hC.ext e) hc (y := (c.kind : Int)) rfl fun q => ⟨tupb ?_, rfl⟩)) (fun h => ⟨tupb ?_, rfl⟩))
    · simp only [bne_iff_ne, ne_eq, decide_eq_true_eq, h, true_and]; omega
    · simp [h]
  rintro _ _ ⟨rfl, rfl⟩
  refine sif_r (fun h => ?_) (fun h => ?_)
  · simp only [decide_eq_true_eq] at h
    rw [if_pos h] at hso
    subst hso
    exact hK W (Ext.refl W)
  · simp only [decide_eq_false_iff_not] at h
    rw [if_neg h] at hso
    subst hso
    exact ld_r (e.ext_get h7) (x := s) rfl (ix_celF (k := .int .i64) (hC.ext e) hc (y := (c.kind : Int)) rfl fun q => hK W (Ext.refl W))
theorem times_pos (count : Int) : 1 ≤ times count := by unfold times; omega
theorem times_lt {count : Int} (h : count < 2 ^ 63) : ((times count : Nat) : Int) < 2 ^ 63 := by unfold times; omega
theorem words_call {at_ kind count arg : Int} (h : Txt w p e lim na O M) (hcn : count < 2 ^ 63) {K : Cells.T c34 × Int × Unit → World → Prop} (hK : ∀ w', Ext w w' → K (spT (wordsP (atoms (aOf e M)) at_ kind count).1, (wordsP (atoms (aOf e M)) at_ kind count).2, ()) w') :
    callT Tryz.prog 29 #[.pointer (some (at0 p)), .int .i64 at_, .agg (Cells.vals c39 (mvT kind count arg)).toArray] (.tup [(.agg c34), (.one (.int .i64))]) K w := by
  refine F29_calls (a2 := mvT kind count arg) ?_
  unfold F29
  have few := h.few; have lims := h.lims
  have hal := hal e M
  have here := fun (w0 : World) (h0 : Txt w0 p e lim na O M) (a : Nat) (ha : a ≤ (atoms (aOf e M)).length) => @here_call w0 p e lim na O M a h0 ha
  generalize hA : atoms (aOf e M) = A at *
  unfold wordsP at hK
  rw [hal] at hK
  let Mv : Obj := .cells (Cells.vals c39 (mvT kind count arg)).toArray 39 (0, 0)
  let Z : Obj := .cells #[.int .i64 0, .int .i64 0, .int .i64 0] 34 (0, 0)
  refine (St.start w).newO fun b1 w1 S1 e1 => S1.newO fun b2 w2 S2 e2 => ?_
  have S2 : St (fun _ => False) w w2 [(b2, Z), (b1, Mv)] := S2
  refine S2.lds 1 (mvT kind count arg) rfl (checked_call (h.ext S2.upd) fun w3 e3 => ?_)
  have S3 := S2.ext e3
  generalize hck : checked (aOf e M).length at_ kind count 61 64 = ck at *
  refine sif_r (fun h0 => ?_) (fun h0 => ?_)
  · simp only [bne_iff_ne, ne_eq] at h0
    rw [if_pos h0] at hK
    exact S3.aggSt 0 rfl rfl rfl rfl fun w4 S4 _ => S4.lds 0 (spT (0, 0, 0)) rfl (hK w4 S4.upd)
  simp only [bne_eq_false_iff_eq] at h0
  rw [if_neg (by rw [h0]; decide)] at hK
  have hat : 0 ≤ at_ ∧ at_ ≤ ((aOf e M).length : Int) := by
    unfold checked at hck
    split at hck
    · omega
    · split at hck <;> omega
  obtain ⟨a, rfl⟩ : ∃ a : Nat, at_ = (a : Int) := ⟨at_.toNat, by omega⟩
  refine here w3 (h.ext S3.upd) a (by omega) fun s w4 hC e4 => ?_
  have S4 := S3.ext e4
  dsimp only at hK
  have hCle : (lineC A (lineP A (a : Int))).length ≤ A.length := by
    have := cels_le ((A.drop (lineP A (a : Int)).from_).take ((lineP A (a : Int)).to_ - (lineP A (a : Int)).from_)) (lineP A (a : Int)).from_
    rw [List.length_take, List.length_drop] at this
    show (cels _ _).length ≤ _
    omega
  generalize lineC A (lineP A (a : Int)) = C at *
  refine S4.newO fun b7 w5 S5 e5 => S5.stC 0 rfl Nat.one_pos fun w6 S6 u6 => ?_
  let B7 : Obj := .cells #[.slice s.a s.len s.cap] 68 (0, 0)
  have S6 : St (fun _ => False) w w6 [(b7, B7), (b2, Z), (b1, Mv)] := S6
  have hC6 : CelIn w6 s C := SlIn.box (hC.ext e5) (S5.at_ 0 rfl) (by decide) u6
  unfold hereV
  dsimp only
  by_cases hz : C.length = 0
  · rw [if_pos hz] at hK
    rw [if_pos hz]
    refine sif_r (fun _ => S6.aggSt 1 rfl rfl rfl rfl fun w7 S7 _ => S7.lds 1 (spT (0, 0, 0)) rfl (hK w7 S7.upd)) (fun h => by simp at h)
  rw [if_neg hz] at hK
  rw [if_neg hz]
  have hh : hereI C (a : Int) < C.length := by unfold hereI; split <;> omega
  generalize hereI C (a : Int) = i at *
  refine sif_r (fun h => absurd (of_decide_eq_true h) (by omega)) (fun _ => ?_)
  refine join_r (fun x W => ∃ b, x = (at0 b, ()) ∧ St (fun _ => False) w W [(b, .cells #[.bool (decide (kind = 63 ∨ kind = 64))] 4 (0, 0)), (b7, B7), (b2, Z), (b1, Mv)] ∧ Ext w6 W) ?_ ?_
  · refine S6.ld 2 rfl (x := kind) rfl (sif_r (fun h => ?_) (fun h => ?_))
    · simp only [beq_iff_eq] at h
      refine S6.newO' fun b w7 S7 e7 hb => S7.stC 0 rfl Nat.one_pos fun w8 S8 u8 => ⟨b, rfl, ?_, e7.step u8 fun k hk => by omega⟩
      rw [decide_eq_true (.inl h)]; exact S8
    · simp only [beq_eq_false_iff_ne, ne_eq] at h
      refine S6.ld 2 rfl (x := kind) rfl (S6.newO' fun b w7 S7 e7 hb => S7.stC 0 rfl Nat.one_pos fun w8 S8 u8 => ⟨b, rfl, ?_, e7.step u8 fun k hk => by omega⟩)
      have e : (kind == 64) = decide (kind = 63 ∨ kind = 64) := by rw [Bool.eq_iff_iff, beq_iff_eq, decide_eq_true_eq]; omega
      rw [← e]; exact S8
  rintro _ w7 ⟨b, rfl, S7, e7⟩
  generalize decide (kind = 63 ∨ kind = 64) = big at *
  have hC7 := hC6.ext e7
  have hlen := CelIn.lenC hC7
  have hsl := sorts_len C big
  refine S7.ld 1 rfl (x := s) rfl (S7.newO fun b16 w8 S8 e8 => S8.aggSt 0 rfl rfl rfl rfl fun w9 S9 u9 => ?_)
  have hC9 : CelIn w9 s C := SlIn.box (hC7.ext e8) (S8.at_ 0 rfl) (by decide) u9
  rw [← hlen, ← hsl] at S9
  have hf : SortX w9 (.func (.func 52) #[] #[.pointer (some (at0 b)), .pointer (some (at0 b7))]) (sortsW C big) := sortX_words hC9 (S9.at_ 2 rfl) (S9.at_ 1 rfl)
  let F : Value := .func (.func 52) #[] #[.pointer (some (at0 b)), .pointer (some (at0 b7))]
  refine S9.lds 0 (rowT (sortsW C big).length F) rfl ?_
  let R : Value := .agg (Cells.vals c89 (rowT (sortsW C big).length F)).toArray
  refine join_r (fun x W => x = ((if kind = 62 ∨ kind = 64 then (.func (.func 54) #[R] #[] : Value) else .func (.func 53) #[R] #[]), ()) ∧ w9 = W) ?_ ?_
  · refine join_r (fun x W => x = (decide (kind = 62 ∨ kind = 64), ()) ∧ w9 = W) ?_ ?_
    · refine S9.ld 4 rfl (x := kind) rfl (sif_r (fun h => ⟨tupb ?_, rfl⟩) (fun h => S9.ld 4 rfl (x := kind) rfl ⟨tupb ?_, rfl⟩))
      all_goals simp only [beq_iff_eq, beq_eq_false_iff_ne, ne_eq, decide_eq_true_eq, true_iff] at *
      all_goals omega
    rintro _ _ ⟨rfl, rfl⟩
    refine sif_r (fun h => ?_) (fun h => ?_)
    · simp only [decide_eq_true_eq] at h
      rw [if_pos h]
      exact S9.lds 0 (rowT (sortsW C big).length F) rfl ⟨rfl, rfl⟩
    · simp only [decide_eq_false_iff_not] at h
      rw [if_neg h]
      exact ⟨rfl, rfl⟩
  rintro _ _ ⟨rfl, rfl⟩
  refine S9.lds 4 (mvT kind count arg) rfl (times_call hcn fun w10 e10 => ?_)
  have S10 := S9.ext e10
  have tp := times_pos count
  have tl := times_lt hcn
  have fin : ∀ W, Ext w10 W → (fun (x27 : Int × Int × Bool × Unit) => sif (!x27.2.2.1) (aggSt (at0 b2) (.agg #[.int .i64 0, .int .i64 0, .int .i64 0]) 3 (lds c34 (at0 b2) fun x28 => K (x28, 90, ())))
      (drew (ld .sl (at0 b7) fun x29 => ix x29.a x29.len x27.1 fun p30 => ld (.int .i64) (p30.add (scaled (Int.toNat x27.1) 5)) fun x31 => ld .sl (at0 b7) fun x32 => ix x32.a x32.len (IntKind.wrap .i64 (x27.2.1 - 1)) fun p33 => ld (.int .i64) ((p33.add (scaled (Int.toNat (IntKind.wrap .i64 (x27.2.1 - 1))) 5)).add 1) fun x34 =>
        aggSt (at0 b2) (.agg #[.int .i64 x31, .int .i64 x34, .int .i64 0]) 3 (lds c34 (at0 b2) fun x35 => K (x35, 0, ()))))) (pickV (pickP (decide (kind = 62 ∨ kind = 64)) (sortsW C big) i (times count))) W := by
    intro W eW
    have SW := S10.ext eW
    cases hp : pickP (decide (kind = 62 ∨ kind = 64)) (sortsW C big) i (times count) with
    | none =>
      rw [hp] at hK
      exact sif_true (SW.aggSt 3 rfl rfl rfl rfl fun w12 S12 _ => S12.lds 3 (spT (0, 0, 0)) rfl (hK w12 S12.upd))
    | some ft =>
      obtain ⟨f, t⟩ := ft
      rw [hp] at hK
      have hb : f ≤ i ∧ i < t ∧ t ≤ (sortsW C big).length := by
        unfold pickP at hp
        split at hp
        · exact aroundP_le hp
        · exact innerP_le hp
      obtain ⟨c, hc⟩ : ∃ c, C[f]? = some c := ⟨_, List.getElem?_eq_getElem (by omega)⟩
      obtain ⟨d, hd⟩ : ∃ d, C[t - 1]? = some d := ⟨_, List.getElem?_eq_getElem (by omega)⟩
      dsimp only at hK
      rw [hc, hd] at hK
      simp only [Option.map_some, Option.getD_some] at hK
      have ew : IntKind.wrap .i64 ((t : Int) - 1) = ((t - 1 : Nat) : Int) := by rw [wrap64 (by omega) (by omega)]; omega
      refine sif_false (SW.drew fun w12 S12 e12 _ => ?_)
      have hC12 := hC9.ext (e10.trans (eW.trans e12))
      dsimp only [pickV]
      rw [ew]
      refine S12.ld 2 rfl (x := s) rfl (ix_celF0 (k := .int .i64) hC12 hc (y := (c.from_ : Int)) rfl fun q1 => S12.ld 2 rfl (x := s) rfl (ix_celF (k := .int .i64) hC12 hd (y := (d.to_ : Int)) rfl fun q2 => ?_))
      exact S12.aggSt 3 rfl rfl rfl rfl fun w13 S13 _ => S13.lds 3 (spT (c.from_, d.to_, 0)) rfl (hK w13 S13.upd)
  have hil : i < (sortsW C big).length := by omega
  have hll : (sortsW C big).length < 2 ^ 60 := by omega
  by_cases hk : kind = 62 ∨ kind = 64
  · rw [if_pos hk]
    have fin' := fin
    rw [decide_eq_true hk] at fin'
    exact func_m (a := R) (by kernel_rfl) (around_call (hf.ext e10) rfl hil hll tp tl fin')
  · rw [if_neg hk]
    have fin' := fin
    rw [decide_eq_false hk] at fin'
    exact func_m (a := R) (by kernel_rfl) (inner_call (hf.ext e10) rfl hil hll tp tl fin')
end
end Go.Proofs.YtabcpghhfeplaaaGreat
set_option linter.unusedSimpArgs false
set_option linter.unusedVariables false
set_option maxRecDepth 100000
namespace Go.Proofs.YtabcpghhfeplaaaGreat
open Go Go.Vx Cdc Trx Gly Clu Lns Obx
section
variable {w w' : World} {S : Nat → Prop} {p : Nat} {e : Enc} {lim na : Nat} {O : Nat → Prop} {M : Parts}
theorem pairL_cons (q : Int) (i : Nat) (c : Cel) (r : List Cel) (j : Nat) (o : Option Nat) (s : Nat) : pairL q i (c :: r) j o s = if (c.is q && s % 2 == 0) = false then pairL q i r (j + 1) o (if c.is 92 then s + 1 else 0) else
    match o with
    | none => pairL q i r (j + 1) (some j) (if c.is 92 then s + 1 else 0)
    | some k => if i ≤ j then some (k, j) else pairL q i r (j + 1) none (if c.is 92 then s + 1 else 0) := by
  cases o <;> rfl
theorem pairL_le {q : Int} {i : Nat} : ∀ {C : List Cel} {j : Nat} {o : Option Nat} {s x y : Nat}, (∀ k, o = some k → k < j) → pairL q i C j o s = some (x, y) → x < y ∧ y < j + C.length ∧ i ≤ y
  | [], _, _, _, _, _, _, h => by simp [pairL] at h
  | c :: r, j, o, s, x, y, ho, h => by
    rw [pairL_cons] at h
    rw [List.length_cons]
    split at h
    · have := pairL_le (C := r) (j := j + 1) (fun k hk => by have := ho k hk; omega) h; omega
    · cases o with
      | none => have := pairL_le (C := r) (j := j + 1) (fun k hk => by cases hk; omega) h; omega
      | some k =>
        simp only at h
        split at h
        · cases h; have := ho _ rfl; omega
        · have := pairL_le (C := r) (j := j + 1) (fun k hk => by cases hk) h; omega
theorem pair_call {C : List Cel} {s : Sl} {i : Nat} {iv q : Int} (hs : CelIn w s C) (hl : C.length < 2 ^ 60) (hi : C.length ≠ 0 → iv = (i : Int)) {K : Int × Int × Bool × Unit → World → Prop} (hK : ∀ w', Ext w w' → K (pickV (pairL q i C 0 none 0)) w') :
    callT Tryz.prog 55 #[.slice s.a s.len s.cap, .int .i64 iv, .int .i64 q] (.tup [(.one (.int .i64)), (.one (.int .i64)), (.one .bool)]) K w := by
  refine F55_calls ?_
  unfold F55
  have hlen := CelIn.lenC hs
  refine join_r (fun _ W => Ext w W ∧ pairL q i C 0 none 0 = none) ?_ (fun _ W h => by have := hK W h.1; rwa [h.2] at this)
  refine sloop_r (fun x W => ∃ (j : Nat) (o : Option Nat) (sl : Nat), j ≤ C.length ∧ sl ≤ j ∧ (∀ k, o = some k → k < j) ∧ x = (oI o, (sl : Int), (j : Int), ()) ∧ Ext w W ∧ pairL q i C 0 none 0 = pairL q i (C.drop j) j o sl) (fun x _ => ((C.length : Int) - x.2.2.1).toNat)
    ⟨0, none, 0, Nat.zero_le _, Nat.le_refl _, (fun _ h => by cases h), rfl, Ext.refl w, rfl⟩ ?_
  rintro _ W ⟨j, o, sl, hj, hsl, ho, rfl, eW, heq⟩
  dsimp only
  refine sif_r (fun hc => ?_) (fun hc => ?_)
  · simp only [decide_eq_true_eq] at hc
    have hjl : j < C.length := by omega
    obtain ⟨c, hc'⟩ : ∃ c, C[j]? = some c := ⟨_, List.getElem?_eq_getElem hjl⟩
    have hd : C.drop j = c :: C.drop (j + 1) := by
      rw [List.drop_eq_getElem_cons hjl]
      rw [List.getElem?_eq_getElem hjl] at hc'
      rw [Option.some.inj hc']
    rw [hd, pairL_cons] at heq
    refine join_r (fun x W' => ∃ (o' : Option Nat) (sl' : Nat), sl' ≤ j + 1 ∧ (∀ k, o' = some k → k < j + 1) ∧ x = (oI o', (sl' : Int), ()) ∧ Ext w W' ∧ pairL q i C 0 none 0 = pairL q i (C.drop (j + 1)) (j + 1) o' sl') ?_ ?_
    · refine ix_cel (hs.ext eW) hc' fun qq => (St.start W).newO fun b w2 S2 e2 => S2.aggSt 0 rfl rfl rfl rfl fun w3 S3 u3 => ?_
      refine join_r (fun x W' => x = (c.is q && sl % 2 == 0, ()) ∧ St (fun _ => False) W W' [(b, .cells (Cells.vals c72 (celT c)).toArray 72 (0, 0))]) ?_ ?_
      · refine S3.lds 0 (celT c) rfl (is_call fun w4 e4 => sif_r (fun h => chk_r (by decide) ⟨tupb ?_, S3.ext e4⟩) (fun h => ⟨tupb ?_, S3.ext e4⟩))
        · have h : c.is q = true := h
          rw [Int.tmod_eq_emod_of_nonneg (by omega), h, Bool.true_and, beq_iff_eq, beq_iff_eq]; omega
        · have h : c.is q = false := h
          rw [h, Bool.false_and]
      rintro _ w4 ⟨rfl, S4⟩
      refine join_r (fun x W' => x = (((if c.is 92 then sl + 1 else 0 : Nat) : Int), ()) ∧ Ext w W') ?_ ?_
      · refine S4.lds 0 (celT c) rfl (is_call fun w5 e5 => sif_r (fun h => ⟨?_, eW.trans (S4.ext e5).upd⟩) (fun h => ⟨?_, eW.trans (S4.ext e5).upd⟩))
        · simp only [Bool.not_eq_true'] at h
          rw [if_neg (by rw [h]; decide)]; rfl
        · simp only [Bool.not_eq_false'] at h
          rw [if_pos h, wrap64 (by omega) (by omega)]; rfl
      rintro _ w5 ⟨rfl, e5⟩
      have hsl' : (if c.is 92 then sl + 1 else 0) ≤ j + 1 := by split <;> omega
      generalize (if c.is 92 then sl + 1 else 0) = sl' at *
      refine sif_r (fun hm => ?_) (fun hm => ?_)
      · simp only [Bool.not_eq_true'] at hm
        rw [if_pos hm] at heq
        exact ⟨o, sl', hsl', fun k hk => by have := ho k hk; omega, rfl, e5, heq⟩
      simp only [Bool.not_eq_false'] at hm
      rw [if_neg (by rw [hm]; decide)] at heq
      cases o with
      | none =>
        refine sif_true ?_
        exact ⟨some j, sl', hsl', (fun k hk => by cases hk; omega), rfl, e5, heq⟩
      | some k =>
        refine sif_r (fun h => absurd (of_decide_eq_true h) (Int.not_lt.2 (Int.natCast_nonneg k))) (fun _ => ?_)
        have hiv := hi (by omega)
        refine sif_r (fun hge => ?_) (fun hge => ?_)
        · simp only [decide_eq_true_eq, ge_iff_le] at hge
          simp only [if_pos (show i ≤ j by omega)] at heq
          have := hK w5 e5
          rw [heq] at this
          exact this
        · simp only [decide_eq_false_iff_not, ge_iff_le] at hge
          simp only [if_neg (show ¬ i ≤ j by omega)] at heq
          exact ⟨none, sl', hsl', (fun k hk => by cases hk), rfl, e5, heq⟩
    · rintro _ W' ⟨o', sl', h1, h2, rfl, e', heq'⟩
      have ew : IntKind.wrap .i64 ((j : Int) + 1) = ((j + 1 : Nat) : Int) := by rw [wrap64 (by omega) (by omega)]; omega
      rw [ew]
      exact ⟨⟨j + 1, o', sl', by omega, h1, h2, rfl, e', heq'⟩, by omega⟩
  · simp only [decide_eq_false_iff_not] at hc
    have : C.drop j = [] := List.drop_eq_nil_of_le (by omega)
    rw [this] at heq
    exact ⟨eW, heq⟩
theorem blanksUp_ge (C : List Cel) (j : Nat) : j ≤ blanksUp C j := by unfold blanksUp; omega
theorem blanksUp_le {C : List Cel} {j : Nat} (h : j ≤ C.length) : blanksUp C j ≤ C.length := by
  unfold blanksUp
  have := (List.takeWhile_sublist (fun c : Cel => c.kind == 0) (l := C.drop j)).length_le
  rw [List.length_drop] at this; omega
theorem blanksUp_step {C : List Cel} {j : Nat} {c : Cel} (h : C[j]? = some c) : blanksUp C j = if c.kind = 0 then blanksUp C (j + 1) else j := by
  have hj := (List.getElem?_eq_some_iff.1 h).1
  have hd : C.drop j = c :: C.drop (j + 1) := by
    rw [List.drop_eq_getElem_cons hj]
    rw [List.getElem?_eq_getElem hj] at h
    rw [Option.some.inj h]
  unfold blanksUp
  rw [hd, List.takeWhile_cons]
  by_cases hk : c.kind = 0
  · have : (c.kind == 0) = true := by rw [beq_iff_eq]; exact hk
    rw [this, if_pos rfl, if_pos hk, List.length_cons]; omega
  · have : (c.kind == 0) = false := by rw [beq_eq_false_iff_ne]; exact hk
    rw [this, if_neg (by decide), if_neg hk]; rfl
theorem blanksUp_end {C : List Cel} {j : Nat} (h : C.length ≤ j) : blanksUp C j = j := by
  unfold blanksUp
  rw [List.drop_eq_nil_of_le h]; rfl
theorem blanksDown_le (C : List Cel) : ∀ j, blanksDown C j ≤ j
  | 0 => Nat.le_refl _
  | j + 1 => by rw [blanksDown]; have := blanksDown_le C j; split <;> omega
def blankAt (C : List Cel) (j : Int) : Bool := decide (0 ≤ j) && (C[j.toNat]?.map (·.kind)) == some 0
theorem blank_x {C : List Cel} {s : Sl} {b : Nat} {j : Int} (hC : CelIn w s C) (hb : w.heap[b]? = some (.cells #[.slice s.a s.len s.cap] 68 (0, 0))) {K : Bool → World → Prop} (hK : K (blankAt C j) w) :
    callX Tryz.prog (do let d ← Deferred.ofValue (.func (.func 56) #[] #[.pointer (some (at0 b))]) #[.int .i64 j]; invoke d.target d.args : Sem Next) (.one (.one .bool)) K w := by
  refine func_x (caps := #[.pointer (some (at0 b))]) (by kernel_rfl) ?_
  refine F56_calls ?_
  unfold F56
  have hlen := CelIn.lenC hC
  unfold blankAt at hK
  refine sif_r (fun h => ?_) (fun h => ?_)
  · simp only [decide_eq_true_eq, ge_iff_le] at h
    rw [decide_eq_true h, Bool.true_and] at hK
    obtain ⟨n, rfl⟩ : ∃ n : Nat, j = (n : Int) := ⟨j.toNat, by omega⟩
    rw [Int.toNat_natCast] at hK
    refine ld_r hb (x := s) rfl (sif_r (fun h2 => ?_) (fun h2 => ?_))
    · simp only [decide_eq_true_eq] at h2
      obtain ⟨c, hc⟩ : ∃ c, C[n]? = some c := ⟨_, List.getElem?_eq_getElem (by omega)⟩
      rw [hc] at hK
      refine ld_r hb (x := s) rfl (ix_celF (k := .int .i64) hC hc (y := (c.kind : Int)) rfl fun q => ?_)
      have e : (((c.kind : Nat) : Int) == 0) = (Option.map (fun c : Cel => c.kind) (some c) == some 0) := by
        rw [Bool.eq_iff_iff, beq_iff_eq, beq_iff_eq, Option.map_some, Option.some.injEq]; omega
      rw [e]; exact hK
    · simp only [decide_eq_false_iff_not] at h2
      rw [List.getElem?_eq_none (by omega)] at hK
      exact hK
  · simp only [decide_eq_false_iff_not, ge_iff_le] at h
    rw [decide_eq_false h, Bool.false_and] at hK
    exact hK
theorem quotes_call {at_ kind count arg : Int} (h : Txt w p e lim na O M) (hcn : count < 2 ^ 63) {K : Cells.T c34 × Int × Unit → World → Prop} (hK : ∀ w', Ext w w' → K (spT (quotesP (atoms (aOf e M)) at_ kind count arg).1, (quotesP (atoms (aOf e M)) at_ kind count arg).2, ()) w') :
    callT Tryz.prog 31 #[.pointer (some (at0 p)), .int .i64 at_, .agg (Cells.vals c39 (mvT kind count arg)).toArray] (.tup [(.agg c34), (.one (.int .i64))]) K w := by
  refine F31_calls (a2 := mvT kind count arg) ?_
  unfold F31
  have few := h.few; have lims := h.lims
  have hal := hal e M
  have here := fun (w0 : World) (h0 : Txt w0 p e lim na O M) (a : Nat) (ha : a ≤ (atoms (aOf e M)).length) => @here_call w0 p e lim na O M a h0 ha
  generalize hA : atoms (aOf e M) = A at *
  unfold quotesP at hK
  rw [hal] at hK
  let Mv : Obj := .cells (Cells.vals c39 (mvT kind count arg)).toArray 39 (0, 0)
  let Z : Obj := .cells #[.int .i64 0, .int .i64 0, .int .i64 0] 34 (0, 0)
  refine (St.start w).newO fun b1 w1 S1 e1 => S1.newO fun b2 w2 S2 e2 => ?_
  have S2 : St (fun _ => False) w w2 [(b2, Z), (b1, Mv)] := S2
  refine S2.lds 1 (mvT kind count arg) rfl (checked_call (h.ext S2.upd) fun w3 e3 => ?_)
  have S3 := S2.ext e3
  generalize hck : checked (aOf e M).length at_ kind count 65 66 = ck at *
  refine join_r (fun x W => x = (decide (ck = 1 ∨ (arg ≠ 34 ∧ arg ≠ 39 ∧ arg ≠ 96)), ()) ∧ w3 = W) ?_ ?_
  · refine sif_r (fun h1 => ⟨tupb ?_, rfl⟩) (fun h1 => S3.ld 1 rfl (x := arg) rfl (sif_r (fun h2 => S3.ld 1 rfl (x := arg) rfl (sif_r (fun h3 => S3.ld 1 rfl (x := arg) rfl ⟨tupb ?_, rfl⟩) (fun h3 => ⟨tupb ?_, rfl⟩))) (fun h2 => ⟨tupb ?_, rfl⟩)))
    all_goals simp only [beq_iff_eq, beq_eq_false_iff_ne, bne_iff_ne, bne_eq_false_iff_eq, ne_eq, decide_eq_true_eq, true_iff, Bool.false_eq_true, false_iff] at *
    all_goals omega
  rintro _ _ ⟨rfl, rfl⟩
  refine sif_r (fun h1 => ?_) (fun h1 => ?_)
  · simp only [decide_eq_true_eq] at h1
    rw [if_pos h1] at hK
    exact S3.aggSt 0 rfl rfl rfl rfl fun w4 S4 _ => S4.lds 0 (spT (0, 0, 0)) rfl (hK w4 S4.upd)
  simp only [decide_eq_false_iff_not] at h1
  rw [if_neg h1] at hK
  refine sif_r (fun h0 => ?_) (fun h0 => ?_)
  · simp only [bne_iff_ne, ne_eq] at h0
    rw [if_pos h0] at hK
    exact S3.aggSt 0 rfl rfl rfl rfl fun w4 S4 _ => S4.lds 0 (spT (0, 0, 0)) rfl (hK w4 S4.upd)
  simp only [bne_eq_false_iff_eq] at h0
  rw [if_neg (by rw [h0]; decide)] at hK
  have hat : 0 ≤ at_ ∧ at_ ≤ ((aOf e M).length : Int) := by
    unfold checked at hck
    split at hck
    · omega
    · split at hck <;> omega
  obtain ⟨a, rfl⟩ : ∃ a : Nat, at_ = (a : Int) := ⟨at_.toNat, by omega⟩
  refine here w3 (h.ext S3.upd) a (by omega) fun s w4 hC e4 => ?_
  have S4 := S3.ext e4
  dsimp only at hK ⊢
  have hCle : (lineC A (lineP A (a : Int))).length ≤ A.length := by
    have := cels_le ((A.drop (lineP A (a : Int)).from_).take ((lineP A (a : Int)).to_ - (lineP A (a : Int)).from_)) (lineP A (a : Int)).from_
    rw [List.length_take, List.length_drop] at this
    show (cels _ _).length ≤ _
    omega
  generalize lineC A (lineP A (a : Int)) = C at *
  refine S4.newO fun b7 w5 S5 e5 => S5.stC 0 rfl Nat.one_pos fun w6 S6 u6 => ?_
  let B7 : Obj := .cells #[.slice s.a s.len s.cap] 68 (0, 0)
  have S6 : St (fun _ => False) w w6 [(b7, B7), (b2, Z), (b1, Mv)] := S6
  have hC6 : CelIn w6 s C := SlIn.box (hC.ext e5) (S5.at_ 0 rfl) (by decide) u6
  have hlen := CelIn.lenC hC6
  refine S6.ld 0 rfl (x := s) rfl (S6.ld 2 rfl (x := arg) rfl ?_)
  refine pair_call (i := hereI C (a : Int)) hC6 (by omega) (fun hz => by unfold hereV; rw [if_neg hz]) fun w7 e7 => ?_
  have S7 := S6.ext e7
  have hC7 := hC6.ext e7
  cases hp : pairL arg (hereI C (a : Int)) C 0 none 0 with
  | none =>
    rw [hp] at hK
    exact sif_true (S7.aggSt 1 rfl rfl rfl rfl fun w8 S8 _ => S8.lds 1 (spT (0, 0, 0)) rfl (hK w8 S8.upd))
  | some ot =>
    obtain ⟨one, two⟩ := ot
    rw [hp] at hK
    obtain ⟨hot, htl, _⟩ := pairL_le (fun _ h => by cases h) hp
    rw [Nat.zero_add] at htl
    obtain ⟨c1, hc1⟩ : ∃ c, C[one]? = some c := ⟨_, List.getElem?_eq_getElem (by omega)⟩
    obtain ⟨c2, hc2⟩ : ∃ c, C[two]? = some c := ⟨_, List.getElem?_eq_getElem (by omega)⟩
    refine sif_false ?_
    dsimp only [pickV] at hK ⊢
    refine join_r (fun x W => x = (decide (kind = 65 ∧ count < 2), ()) ∧ w7 = W) ?_ ?_
    · refine S7.ld 2 rfl (x := kind) rfl (sif_r (fun h => S7.ld 2 rfl (x := count) rfl ⟨tupb ?_, rfl⟩) (fun h => ⟨tupb ?_, rfl⟩))
      all_goals simp only [beq_iff_eq, beq_eq_false_iff_ne, ne_eq, decide_eq_true_eq, Bool.false_eq_true, false_iff] at *
      all_goals omega
    rintro _ _ ⟨rfl, rfl⟩
    refine sif_r (fun h2 => ?_) (fun h2 => ?_)
    · simp only [decide_eq_true_eq] at h2
      rw [if_pos h2, hc1, hc2] at hK
      simp only [Option.map_some, Option.getD_some] at hK
      refine S7.drew fun w8 S8 e8 _ => S8.ld 0 rfl (x := s) rfl (ix_celF (k := .int .i64) (hC7.ext e8) hc1 (y := (c1.to_ : Int)) rfl fun q1 => S8.ld 0 rfl (x := s) rfl (ix_celF0 (k := .int .i64) (hC7.ext e8) hc2 (y := (c2.from_ : Int)) rfl fun q2 => ?_))
      exact S8.aggSt 1 rfl rfl rfl rfl fun w9 S9 _ => S9.lds 1 (spT (c1.to_, c2.from_, 0)) rfl (hK w9 S9.upd)
    simp only [decide_eq_false_iff_not] at h2
    rw [if_neg h2] at hK
    have ew2 : IntKind.wrap .i64 ((two : Int) + 1) = ((two + 1 : Nat) : Int) := by rw [wrap64 (by omega) (by omega)]; omega
    rw [ew2]
    have hbl := blanksUp_le (C := C) (j := two + 1) (by omega)
    have hbg := blanksUp_ge C (two + 1)
    have hdl := blanksDown_le C one
    obtain ⟨t, ht⟩ : ∃ t, t = if kind = 66 then blanksUp C (two + 1) else two + 1 := ⟨_, rfl⟩
    obtain ⟨f, hf⟩ : ∃ f, f = if kind = 66 ∧ t = two + 1 then blanksDown C one else one := ⟨_, rfl⟩
    rw [← ht, ← hf] at hK
    have htb : two + 1 ≤ t ∧ t ≤ C.length := by rw [ht]; split <;> omega
    have hfb : f ≤ one := by rw [hf]; split <;> omega
    refine join_r (fun x W => x = ((f : Int), (t : Int), ()) ∧ w7 = W) ?_ ?_
    · refine S7.ld 2 rfl (x := kind) rfl (sif_r (fun hk => ?_) (fun hk => ?_))
      · simp only [beq_iff_eq] at hk
        rw [if_pos hk] at ht
        have hf' : f = if t = two + 1 then blanksDown C one else one := by rw [hf]; by_cases ht2 : t = two + 1 <;> simp [hk, ht2]
        refine join_r (fun x W => x = ((t : Int), ()) ∧ w7 = W) ?_ ?_
        · refine sloop_r (fun x W => ∃ j : Nat, j ≤ C.length ∧ x = ((j : Int), ()) ∧ w7 = W ∧ blanksUp C j = blanksUp C (two + 1)) (fun x _ => ((C.length : Int) - x.1).toNat) ⟨two + 1, by omega, rfl, rfl, rfl⟩ ?_
          rintro _ _ ⟨j, hj, rfl, rfl, hbj⟩
          refine blank_x hC7 (S7.at_ 0 rfl) ?_
          refine sif_r (fun hb => ?_) (fun hb => ?_)
          · unfold blankAt at hb
            simp only [Bool.and_eq_true, Int.toNat_natCast, beq_iff_eq] at hb
            obtain ⟨c, hc, hck⟩ := Option.map_eq_some_iff.1 hb.2
            have hjl := (List.getElem?_eq_some_iff.1 hc).1
            have ew : IntKind.wrap .i64 ((j : Int) + 1) = ((j + 1 : Nat) : Int) := by rw [wrap64 (by omega) (by omega)]; omega
            dsimp only
            rw [ew]
            refine ⟨⟨j + 1, by omega, rfl, rfl, ?_⟩, by omega⟩
            rw [← hbj, blanksUp_step hc, if_pos hck]
          · unfold blankAt at hb
            refine ⟨?_, rfl⟩
            rw [ht, ← hbj]
            by_cases hjl : j < C.length
            · obtain ⟨c, hc⟩ : ∃ c, C[j]? = some c := ⟨_, List.getElem?_eq_getElem hjl⟩
              rw [blanksUp_step hc, if_neg]
              intro hck
              rw [Int.toNat_natCast, hc, decide_eq_true (by omega)] at hb
              simp [hck] at hb
            · rw [blanksUp_end (by omega)]
        rintro _ _ ⟨rfl, rfl⟩
        refine sloop_r (fun x W => ∃ j : Nat, j ≤ one ∧ x = ((j : Int), ()) ∧ w7 = W ∧ (if t = two + 1 then blanksDown C j else j) = f) (fun x _ => x.1.toNat) ⟨one, Nat.le_refl _, rfl, rfl, hf'.symm⟩ ?_
        rintro _ _ ⟨j, hj, rfl, rfl, hfj⟩
        refine join_r (fun x W => x = (decide (t = two + 1) && blankAt C ((j : Int) - 1), ()) ∧ w7 = W) ?_ ?_
        · refine sif_r (fun h3 => ?_) (fun h3 => ?_)
          · simp only [beq_iff_eq] at h3
            have ew : IntKind.wrap .i64 ((j : Int) - 1) = (j : Int) - 1 := wrap64 (by omega) (by omega)
            dsimp only
            rw [ew]
            refine blank_x hC7 (S7.at_ 0 rfl) ⟨?_, rfl⟩
            rw [decide_eq_true (by omega), Bool.true_and]
          · simp only [beq_eq_false_iff_ne, ne_eq] at h3
            refine ⟨?_, rfl⟩
            rw [decide_eq_false (by omega), Bool.false_and]
        rintro _ _ ⟨rfl, rfl⟩
        refine sif_r (fun h3 => ?_) (fun h3 => ?_)
        · simp only [Bool.and_eq_true, decide_eq_true_eq] at h3
          obtain ⟨h31, h32⟩ := h3
          unfold blankAt at h32
          simp only [Bool.and_eq_true, decide_eq_true_eq, beq_iff_eq] at h32
          obtain ⟨m, rfl⟩ : ∃ m, j = m + 1 := ⟨j - 1, by omega⟩
          have em : (((m + 1 : Nat) : Int) - 1).toNat = m := by omega
          rw [em] at h32
          have ew : IntKind.wrap .i64 (((m + 1 : Nat) : Int) - 1) = (m : Int) := by rw [wrap64 (by omega) (by omega)]; omega
          dsimp only
          rw [ew]
          refine ⟨⟨m, by omega, rfl, rfl, ?_⟩, by omega⟩
          rw [← hfj, if_pos h31, if_pos h31, blanksDown, if_pos h32.2]
        · refine ⟨?_, rfl⟩
          have : f = j := by
            rw [← hfj]
            by_cases ht2 : t = two + 1
            · rw [if_pos ht2]
              rw [decide_eq_true ht2, Bool.true_and] at h3
              cases j with
              | zero => rfl
              | succ m =>
                have em : (((m + 1 : Nat) : Int) - 1).toNat = m := by omega
                unfold blankAt at h3
                rw [em, decide_eq_true (by omega), Bool.true_and, beq_eq_false_iff_ne] at h3
                rw [blanksDown, if_neg h3]
            · rw [if_neg ht2]
          rw [this]
      · simp only [beq_eq_false_iff_ne, ne_eq] at hk
        rw [if_neg hk] at ht
        rw [if_neg (fun h => hk h.1)] at hf
        rw [ht, hf]
        exact ⟨rfl, rfl⟩
    rintro _ _ ⟨rfl, rfl⟩
    obtain ⟨cf, hcf⟩ : ∃ c, C[f]? = some c := ⟨_, List.getElem?_eq_getElem (by omega)⟩
    obtain ⟨ct, hct⟩ : ∃ c, C[t - 1]? = some c := ⟨_, List.getElem?_eq_getElem (by omega)⟩
    rw [hcf, hct] at hK
    simp only [Option.map_some, Option.getD_some] at hK
    have ewt : IntKind.wrap .i64 ((t : Int) - 1) = ((t - 1 : Nat) : Int) := by rw [wrap64 (by omega) (by omega)]; omega
    dsimp only
    rw [ewt]
    refine S7.drew fun w8 S8 e8 _ => S8.ld 0 rfl (x := s) rfl (ix_celF0 (k := .int .i64) (hC7.ext e8) hcf (y := (cf.from_ : Int)) rfl fun q1 => S8.ld 0 rfl (x := s) rfl (ix_celF (k := .int .i64) (hC7.ext e8) hct (y := (ct.to_ : Int)) rfl fun q2 => ?_))
    exact S8.aggSt 1 rfl rfl rfl rfl fun w9 S9 _ => S9.lds 1 (spT (cf.from_, ct.to_, 0)) rfl (hK w9 S9.upd)
end
end Go.Proofs.YtabcpghhfeplaaaGreat
set_option linter.unusedSimpArgs false
set_option linter.unusedVariables false
set_option maxRecDepth 100000
namespace Go.Proofs.YtabcpghhfeplaaaGreat
open Go Go.Vx Cdc Trx Gly Clu Lns Obx
section
variable {w w' : World} {S : Nat → Prop} {p : Nat} {e : Enc} {lim na : Nat} {O : Nat → Prop} {M : Parts}
theorem yield_xs {l : Nat} {vs : List Value} {R : Bool → World → Prop} (h : yieldX Tryz.prog l vs R w) :
    callX Tryz.prog (do let d ← Deferred.ofValue (.func (.yield l) #[] #[]) vs.toArray; invoke d.target d.args : Sem Next) (.one (.one .bool)) R w := by
  obtain ⟨f, tmps, assign, body, h1, h2⟩ := h
  refine .inr (.inr ⟨l, f, tmps, assign, body, ?_, h2⟩)
  simp only [Deferred.ofValue, pure_bind, invoke, Array.empty_append]
  exact h1
theorem not_tail {A : List Int} {i : Nat} {l : Ln} (h : lnAt A i = some l) (hi : i < lnN A) (h0 : 0 < i) : l ≠ ⟨l.from_, l.from_, l.from_, 0⟩ := by
  intro he
  have ok := ln_ok h
  obtain ⟨hb, hf⟩ := lnAt_some h
  cases hx : sk A (i + 1) with
  | some x =>
    obtain ⟨e1, e2, _⟩ := ok.brk x hx
    have e3 := congrArg Ln.next he
    simp only at e3
    have := ok.ft
    omega
  | none =>
    obtain ⟨e1, e2, e3⟩ := ok.tail hx
    have e4 := congrArg Ln.to_ he
    simp only at e4
    have hbi : i = brs A := by
      rcases Nat.lt_or_ge i (brs A) with h1 | h1
      · obtain ⟨m, hm⟩ := sk_ok (A := A) (k := i + 1) (by omega)
        rw [hm] at hx; cases hx
      · omega
    have hne : ended A = false := by
      unfold lnN at hi
      cases hc : ended A with
      | false => rfl
      | true => rw [hc] at hi; simp at hi; omega
    unfold ended at hne
    rw [← hbi, hf, ← e4, e2] at hne
    have hl : A.length = 0 := by
      simp at hne; exact congrArg List.length hne
    have hb0 : brs A = 0 := by
      have := List.length_eq_zero_iff.1 hl
      rw [this]; rfl
    omega
theorem tail_at {A : List Int} : lnAt A (lnN A) = none ∨ ∃ l, lnAt A (lnN A) = some l ∧ 0 < lnN A ∧ l = ⟨l.from_, l.from_, l.from_, 0⟩ := by
  cases hc : ended A with
  | false =>
    left
    have : lnN A = brs A + 1 := by unfold lnN; rw [hc]; simp
    unfold lnAt
    rw [this, sk_none A (brs A + 1) (by omega)]
  | true =>
    right
    have hn : lnN A = brs A := by unfold lnN; rw [hc]; simp
    unfold ended at hc
    simp only [Bool.and_eq_true, decide_eq_true_eq, beq_iff_eq] at hc
    have hs : sk A (brs A + 1) = none := sk_none A (brs A + 1) (by omega)
    refine ⟨⟨A.length, A.length, A.length, 0⟩, ?_, ?_, rfl⟩
    · unfold lnAt
      rw [hn, hc.2]
      simp only [hs]
    · rw [hn]
      rcases Nat.eq_zero_or_pos (brs A) with hz | hz
      · rw [hz, sk_zero] at hc
        have := Option.some.inj hc.2
        omega
      · exact hz
theorem all_range {b1 : Nat} {vals : Int × Cells.T c100 × Unit → List Value} {body : Nat → (LoopState → Option Code → Loop) → (Bool → World → Prop) → Int × Cells.T c100 × Unit → World → Prop} {aft' : Nat → Option Code → World → Prop}
    (hv : ∀ s, vals s = [.int .i64 s.1, .agg (Cells.vals c100 s.2.1).toArray]) (Inv : Nat → World → Prop)
    (hT : ∀ j W, Inv j W → Txt W p e lim na O M ∧ W.heap[b1]? = some (.cells #[.pointer (some (at0 p))] 25 (0, 0)) ∧ W.heap[w.heap.size]? = some (.deferred (some [])))
    (hx : ∀ j W W', Inv j W → Ext W W' → Inv j W')
    (h0 : ∀ W, Ext w W → W.heap[w.heap.size]? = some (.deferred (some [])) → w.heap.size + 2 ≤ W.heap.size → Inv 0 W)
    (hb : ∀ (rc : LoopState → Option Code → Loop) (j : Nat) l R W, j < lnN (atoms (aOf e M)) → lnAt (atoms (aOf e M)) j = some l → Inv j W → W.heap[w.heap.size + 1]? = some (.loop (rc .ready none)) →
      (∀ W', Inv (j + 1) W' → W'.heap[w.heap.size + 1]? = some (.loop (rc .ready none)) → R true W') → body (w.heap.size + 1) rc R ((j : Int), lnT l, ()) W)
    (he : ∀ W W', Inv (lnN (atoms (aOf e M))) W → W'.heap[w.heap.size]? = some (.deferred (some [])) → Upd (fun k => k = w.heap.size + 1) W W' → (∀ o, W.heap[w.heap.size + 1]? = some o → ∃ lo, o = .loop lo) → aft' w.heap.size none W') :
    rangeE Tryz.prog vals (.func (.func 82) #[] #[.pointer (some (at0 b1))]) body aft' w := by
  intro rc hyield
  have e0 : Ext w (w.alloc (.deferred (some []))) := Ext.alloc w _
  generalize hW0 : w.alloc (.deferred (some [])) = W0 at *
  have d0 : W0.heap[w.heap.size]? = some (.deferred (some [])) := by rw [← hW0]; exact heap_alloc w _
  have z0 : W0.heap.size = w.heap.size + 1 := by rw [← hW0]; simp
  have e1 : Ext W0 (W0.alloc (.loop (rc .ready none))) := Ext.alloc W0 _
  have l1 : (W0.alloc (.loop (rc .ready none))).heap[w.heap.size + 1]? = some (.loop (rc .ready none)) := by rw [← z0]; exact heap_alloc W0 _
  have z1 : (W0.alloc (.loop (rc .ready none))).heap.size = w.heap.size + 2 := by simp [z0]
  generalize hW1 : W0.alloc (.loop (rc .ready none)) = W1 at *
  refine ⟨82, #[.func (.yield (w.heap.size + 1)) #[] #[], .pointer (some (at0 b1))], ?_, ?_⟩
  · simp only [Deferred.ofValue, pure_bind, invoke]
    exact run_callFunc (P := Tryz.prog) (f := 82) (by kernel_rfl) W1
  have e01 := e0.trans e1
  have i1 := h0 W1 e01 (e1.ext_get d0) (by omega)
  have fin : ∀ W, Inv (lnN (atoms (aOf e M))) W → W.heap[w.heap.size + 1]? = some (.loop (rc .ready none)) →
      ∃ st pe, W.heap[w.heap.size + 1]? = some (.loop (rc st pe)) ∧ st ≠ .busy ∧ aft' w.heap.size pe (W.putObj (w.heap.size + 1) (.loop (rc .exhausted pe))) := by
    intro W hI hl
    obtain ⟨u, _⟩ := upd_putObj (o' := .loop (rc .exhausted none)) hl
    exact ⟨.ready, none, hl, by decide, he W _ hI (u.get (hT _ _ hI).2.2 (by omega)) u fun o ho => by rw [hl] at ho; cases ho; exact ⟨_, rfl⟩⟩
  have hT1 := hT _ _ i1
  have few := hT1.1.few; have lims := hT1.1.lims
  have hal := hal e M
  have hbrs : brs (atoms (aOf e M)) ≤ (atoms (aOf e M)).length := by rw [brs_nb]; exact nb_le _ _
  have hnl : lnN (atoms (aOf e M)) ≤ (atoms (aOf e M)).length + 1 := by unfold lnN; split <;> omega
  refine F82_calls ?_
  unfold F82
  refine sloop_r (fun x W => ∃ i : Nat, i ≤ lnN (atoms (aOf e M)) ∧ x = ((i : Int), ()) ∧ Inv i W ∧ W.heap[w.heap.size + 1]? = some (.loop (rc .ready none))) (fun x _ => (((lnN (atoms (aOf e M)) : Nat) : Int) - x.1).toNat) ⟨0, Nat.zero_le _, rfl, i1, l1⟩ ?_
  rintro _ W ⟨i, hi, rfl, hI, hl⟩
  obtain ⟨tx, h1, hd⟩ := hT _ _ hI
  refine ld_r h1 (x := some (at0 p)) rfl (lat_call tx (by omega) fun w2 e2 => ?_)
  rw [lnI_nat]
  cases hla : lnAt (atoms (aOf e M)) i with
  | none =>
    have hin : i = lnN (atoms (aOf e M)) := by
      rcases Nat.lt_or_ge i (lnN (atoms (aOf e M))) with h | h
      · exfalso
        have : i ≤ brs (atoms (aOf e M)) := by unfold lnN at h; split at h <;> omega
        obtain ⟨l, hl⟩ := lnAt_ok this
        rw [hl] at hla; cases hla
      · omega
    refine (St.start w2).newO fun b5 w3 S3 e3 => S3.aggSt 0 rfl rfl rfl rfl fun w4 S4 u4 => ?_
    refine S4.ld 0 rfl (x := (0 : Int)) rfl (S4.ld 0 rfl (x := (0 : Int)) rfl (S4.ld 0 rfl (x := (0 : Int)) rfl (S4.newO fun b9 w5 S5 e5 => S5.aggSt 0 rfl rfl rfl rfl fun w6 S6 u6 => ?_)))
    have e6 : Ext W w6 := e2.trans S6.upd
    refine join_r (fun x W' => x = (true, ()) ∧ w6 = W') (sif_true ⟨rfl, rfl⟩) ?_
    rintro _ _ ⟨rfl, rfl⟩
    subst hin
    exact sif_true (fin w6 (hx _ _ _ hI e6) (e6.ext_get hl))
  | some l =>
    refine (St.start w2).newO fun b5 w3 S3 e3 => S3.aggSt 0 rfl rfl rfl rfl fun w4 S4 u4 => ?_
    refine S4.ld 0 rfl (x := (l.from_ : Int)) rfl (S4.ld 0 rfl (x := (l.from_ : Int)) rfl (S4.ld 0 rfl (x := (l.from_ : Int)) rfl (S4.newO fun b9 w5 S5 e5 => S5.aggSt 0 rfl rfl rfl rfl fun w6 S6 u6 => ?_)))
    have e6 : Ext W w6 := e2.trans S6.upd
    have i6 := hx _ _ _ hI e6
    have l6 := e6.ext_get hl
    have S6' : St (fun _ => False) w2 w6 [(b9, .cells (Cells.vals c100 (lnT ⟨l.from_, l.from_, l.from_, 0⟩)).toArray 100 (0, 0)), (b5, .cells (Cells.vals c100 (lnT l)).toArray 100 (0, 0))] := S6
    refine join_r (fun x W' => (x = (false, ()) ∧ i < lnN (atoms (aOf e M)) ∧ Inv (i + 1) W' ∧ W'.heap[w.heap.size + 1]? = some (.loop (rc .ready none))) ∨ (x = (true, ()) ∧ i = lnN (atoms (aOf e M)) ∧ w6 = W')) ?_ ?_
    · refine sif_false ?_
      have yld : i < lnN (atoms (aOf e M)) → ∀ {J : Bool → World → Prop}, (∀ W', Inv (i + 1) W' → W'.heap[w.heap.size + 1]? = some (.loop (rc .ready none)) → J true W') →
          callX Tryz.prog (do let d ← Deferred.ofValue (.func (.yield (w.heap.size + 1)) #[] #[]) #[.int .i64 (i : Int), .agg (Cells.vals c100 (lnT l)).toArray]; invoke d.target d.args : Sem Next) (.one (.one .bool)) J w6 := by
        intro hlt J hJ
        have := hyield J ((i : Int), lnT l, ()) w6 l6 (hb rc i l J w6 hlt hla i6 l6 hJ)
        rw [hv] at this
        exact yield_xs this
      refine sif_r (fun h => ?_) (fun h => ?_)
      · simp only [decide_eq_true_eq, gt_iff_lt] at h
        refine S6'.lds 1 (lnT l) rfl (S6'.lds 0 (lnT ⟨l.from_, l.from_, l.from_, 0⟩) rfl (lnEql_r ?_))
        by_cases hlt : i < lnN (atoms (aOf e M))
        · rw [decide_eq_false (not_tail hla hlt (by omega))]
          refine sif_false (S6'.lds 1 (lnT l) rfl (yld hlt fun W' i' l' => .inl ⟨rfl, hlt, i', l'⟩))
        · have hin : i = lnN (atoms (aOf e M)) := by omega
          rcases tail_at (A := atoms (aOf e M)) with ht | ⟨l', ht, _, he'⟩
          · rw [hin, ht] at hla; cases hla
          · rw [hin, ht] at hla; cases hla
            rw [decide_eq_true he']
            exact sif_true (.inr ⟨rfl, hin, rfl⟩)
      · simp only [decide_eq_false_iff_not, gt_iff_lt] at h
        have hlt : i < lnN (atoms (aOf e M)) := by
          rcases Nat.lt_or_ge i (lnN (atoms (aOf e M))) with h2 | h2
          · exact h2
          · exfalso
            have hin : i = lnN (atoms (aOf e M)) := by omega
            rcases tail_at (A := atoms (aOf e M)) with ht | ⟨l', ht, h3, _⟩
            · rw [hin, ht] at hla; cases hla
            · omega
        exact S6'.lds 1 (lnT l) rfl (yld hlt fun W' i' l' => .inl ⟨rfl, hlt, i', l'⟩)
    · rintro _ W' (⟨rfl, hlt, i', l'⟩ | ⟨rfl, hin, rfl⟩)
      · have ew : IntKind.wrap .i64 ((i : Int) + 1) = ((i + 1 : Nat) : Int) := by rw [wrap64 (by omega) (by omega)]; omega
        dsimp only
        rw [ew]
        exact sif_false ⟨⟨i + 1, by omega, rfl, i', l'⟩, by omega⟩
      · subst hin
        exact sif_true (fin w6 i6 l6)
end
end Go.Proofs.YtabcpghhfeplaaaGreat
set_option linter.unusedSimpArgs false
set_option linter.unusedVariables false
set_option maxRecDepth 100000
namespace Go.Proofs.YtabcpghhfeplaaaGreat
open Go Go.Vx Cdc Trx Gly Clu Lns Obx
section
variable {w w' : World} {S : Nat → Prop} {p : Nat} {e : Enc} {lim na : Nat} {O : Nat → Prop} {M : Parts}
theorem eLines : ElemOk Tryz.prog 95 100 4 32 := ElemOk.of (z := .agg #[.int .i64 0, .int .i64 0, .int .i64 0, .int .i64 0]) i95_ok i100_ok rfl rfl rfl (by decide)
theorem ln_one (l : Ln) : ∀ v ∈ flat c100 [lnT l], isOne v = true := by
  intro v hv
  rw [flat_one] at hv
  have h : v ∈ [_, _, _, _] := hv
  simp only [List.mem_cons, List.not_mem_nil, or_false] at h
  rcases h with rfl | rfl | rfl | rfl <;> rfl
theorem sortsP_len (A : List Int) : (sortsP A).length = lnN A ∧ (lnAll A).length = lnN A := by
  unfold sortsP lnAll
  simp
theorem lnAll_get {A : List Int} {j : Nat} (hj : j < lnN A) : (lnAll A)[j]? = some ((lnAt A j).getD ⟨0, 0, 0, 0⟩) := by
  unfold lnAll
  rw [List.getElem?_map, List.getElem?_range hj]; rfl
theorem sortX_paras {L : List Nat} {r : Sl} {b : Nat} (hr : SlIn w r 3 1 (nv L)) (hb : w.heap[b]? = some (.cells #[.slice r.a r.len r.cap] 26 (0, 0))) :
    SortX w (.func (.func 60) #[] #[.pointer (some (at0 b))]) L := by
  intro W i so K e hs hK
  refine func_x (caps := #[.pointer (some (at0 b))]) (by kernel_rfl) ?_
  refine F60_calls ?_
  unfold F60
  have nvi : nv L = (L.map fun (n : Nat) => (n : Int)).map (Cell.int .i64).val := by rw [List.map_map]; rfl
  rw [nvi] at hr
  exact ld_r (e.ext_get hb) (x := r) rfl (ix_ld (c := .int .i64) (hr.ext e) (by omega) (x := (so : Int)) (by rw [Int.toNat_natCast, List.getElem?_map, hs]; rfl) fun q => hK W (Ext.refl W))
set_option maxHeartbeats 1000000 in
theorem paras_call {at_ kind count arg : Int} (h : Txt w p e lim na O M) (hcn : count < 2 ^ 63) {K : Cells.T c34 × Int × Unit → World → Prop} (hK : ∀ w', Ext w w' → K (spT (parasP (atoms (aOf e M)) at_ kind count).1, (parasP (atoms (aOf e M)) at_ kind count).2, ()) w') :
    callT Tryz.prog 33 #[.pointer (some (at0 p)), .int .i64 at_, .agg (Cells.vals c39 (mvT kind count arg)).toArray] (.tup [(.agg c34), (.one (.int .i64))]) K w := by
  refine F33_calls (a2 := mvT kind count arg) ?_
  unfold F33
  have few := h.few; have lims := h.lims
  have hal := hal e M
  obtain ⟨A, hA⟩ : ∃ A, A = atoms (aOf e M) := ⟨_, rfl⟩
  rw [← hA] at hal
  rw [← hA] at hK
  unfold parasP at hK
  rw [hal] at hK
  let Pt : Obj := .cells #[.pointer (some (at0 p))] 25 (0, 0)
  let Mv : Obj := .cells (Cells.vals c39 (mvT kind count arg)).toArray 39 (0, 0)
  let Z : Obj := .cells #[.int .i64 0, .int .i64 0, .int .i64 0] 34 (0, 0)
  refine (St.start w).newO fun b1 w1 S1 e1 => S1.newO fun b2 w2 S2 e2 => S2.newO fun b3 w3 S3 e3 => ?_
  have S3 : St (fun _ => False) w w3 [(b3, Z), (b2, Mv), (b1, Pt)] := S3
  refine S3.ld 2 rfl (x := some (at0 p)) rfl (S3.lds 1 (mvT kind count arg) rfl (checked_call (h.ext S3.upd) fun w4 e4 => ?_))
  have S4 := S3.ext e4
  generalize hck : checked (aOf e M).length at_ kind count 69 70 = ck at *
  have fin : ∀ {W : World} {s : Int × Int × Int} {n : Int}, St (fun _ => False) w W [(b3, Z), (b2, Mv), (b1, Pt)] → (∀ w', Ext w w' → K (spT s, n, ()) w') → aggSt (at0 b3) (.agg #[.int .i64 s.1, .int .i64 s.2.1, .int .i64 s.2.2]) 3 (lds c34 (at0 b3) fun x => K (x, n, ())) W := fun {W s n} SW hk =>
    SW.aggSt 0 rfl rfl rfl rfl fun w1 S1 _ => S1.lds 0 (spT s) rfl (hk w1 S1.upd)
  refine sif_r (fun h0 => ?_) (fun h0 => ?_)
  · simp only [bne_iff_ne, ne_eq] at h0
    rw [if_pos h0] at hK
    exact fin (s := (0, 0, 0)) S4 hK
  simp only [bne_eq_false_iff_eq] at h0
  rw [if_neg (by rw [h0]; decide)] at hK
  have hat : 0 ≤ at_ ∧ at_ ≤ ((aOf e M).length : Int) := by
    unfold checked at hck
    split at hck
    · omega
    · split at hck <;> omega
  have hbrs : brs A ≤ A.length := by rw [brs_nb]; exact nb_le _ _
  have hnl : lnN A ≤ A.length + 1 := by unfold lnN; split <;> omega
  refine S4.ld 2 rfl (x := some (at0 p)) rfl (lof_call (h.ext S4.upd) fun w5 e5 => ?_)
  rw [← hA]
  generalize nb A at_.toNat = i at *
  have S5 := S4.ext e5
  refine S5.ld 2 rfl (x := some (at0 p)) rfl (lcount_call (h.ext S5.upd) fun w6 e6 => ?_)
  rw [← hA]
  have S6 := S5.ext e6
  refine sif_r (fun h1 => ?_) (fun h1 => ?_)
  · simp only [decide_eq_true_eq, ge_iff_le] at h1
    rw [if_pos (by omega)] at hK
    exact fin (s := (0, 0, 0)) S6 hK
  simp only [decide_eq_false_iff_not, ge_iff_le] at h1
  rw [if_neg (by omega)] at hK
  refine S6.newO fun b13 w7 S7 e7 => S7.newO fun b14 w8 S8 e8 => ?_
  let B13 : Sl → Obj := fun r => .cells #[.slice r.a r.len r.cap] 95 (0, 0)
  let B14 : Sl → Obj := fun r => .cells #[.slice r.a r.len r.cap] 26 (0, 0)
  let Ls : Sl → Sl → List (Nat × Obj) := fun r1 r2 => [(b14, B14 r2), (b13, B13 r1), (b3, Z), (b2, Mv), (b1, Pt)]
  have S8 : St (fun _ => False) w w8 (Ls ⟨none, 0, 0⟩ ⟨none, 0, 0⟩) := S8
  refine S8.ld 4 rfl (x := some (at0 p)) rfl ?_
  refine F59_calls ?_
  unfold F59
  refine S8.newO fun ba w9 S9 e9 => ?_
  have hba : w9.heap[ba]? = some (.cells #[.pointer (some (at0 p))] 25 (0, 0)) := S9.at_ 0 rfl
  have S9 : St (fun _ => False) w w9 (Ls ⟨none, 0, 0⟩ ⟨none, 0, 0⟩) := S9.tail
  have hbal := lt_of_heap hba
  have lt9 : ∀ x ∈ Ls ⟨none, 0, 0⟩ ⟨none, 0, 0⟩, x.1 < w9.heap.size := S9.lt
  have hb14 := lt9 _ (List.mem_cons_self)
  have hb13 := lt9 (b13, B13 ⟨none, 0, 0⟩) (by simp [Ls])
  have hsz : w.heap.size ≤ w9.heap.size := S9.upd.size
  have tx9 := h.ext S9.upd
  let Inv : Nat → World → Prop := fun j W => ∃ r1 r2, St (fun _ => False) w W (Ls r1 r2) ∧ SlOwn W w9.heap.size r1 100 4 (flat c100 (((lnAll A).take j).map lnT)) ∧ SlOwn W w9.heap.size r2 3 1 (nv ((sortsP A).take j)) ∧
    W.heap[ba]? = some (.cells #[.pointer (some (at0 p))] 25 (0, 0)) ∧ W.heap[w9.heap.size]? = some (.deferred (some []))
  obtain ⟨hsl, hal'⟩ := sortsP_len A
  have invE : ∀ j W W', Inv j W → Ext W W' → Inv j W' := by
    rintro j W W' ⟨r1, r2, g1, g2, g3, g4, g5⟩ x
    exact ⟨r1, r2, g1.ext x, g2.ext x, g3.ext x, x.ext_get g4, x.ext_get g5⟩
  have invL : ∀ {j : Nat} {W W' : World}, Inv j W → Upd (fun k => k = w9.heap.size + 1) W W' → (∀ o, W.heap[w9.heap.size + 1]? = some o → ∃ lo, o = .loop lo) → Inv j W' := by
    rintro j W W' ⟨r1, r2, g1, g2, g3, g4, g5⟩ u hlo
    have nt : ∀ t, NoTy W (fun k => k = w9.heap.size + 1) t := by
      rintro t k rfl c fr hc
      obtain ⟨lo, hh⟩ := hlo _ hc
      cases hh
    refine ⟨r1, r2, g1.fresh u (fun k hk => .inr (by omega)) (fun x hx hk => ?_), g2.ty u (nt _), g3.ty u (nt _), u.get g4 (by omega), u.get g5 (by omega)⟩
    have hx9 : x.1 < w9.heap.size := by
      have : x.1 ∈ (Ls ⟨none, 0, 0⟩ ⟨none, 0, 0⟩).map (·.1) := List.mem_map.2 ⟨x, hx, rfl⟩ |> fun h => by simpa [Ls] using h
      obtain ⟨y, hy, he⟩ := List.mem_map.1 this
      rw [← he]; exact lt9 y hy
    omega
  subst hA
  refine all_range (p := p) (e := e) (lim := lim) (na := na) (O := O) (M := M) (b1 := ba) (fun s => rfl) Inv ?_ invE ?_ ?_ ?_
  · rintro j W ⟨r1, r2, g1, g2, g3, g4, g5⟩
    exact ⟨h.ext g1.upd, g4, g5⟩
  · intro W x hd _
    exact ⟨_, _, S9.ext x, SlOwn.nil _ _ _ _, SlOwn.nil _ _ _ _, x.ext_get hba, hd⟩
  ·
    rintro rc j l R W hj hl ⟨r1, r2, g1, g2, g3, g4, g5⟩ hlp hR
    have hok := ln_ok hl
    have ft := hok.ft; have tn := hok.tn; have nl := hok.nl
    have hjl : (lnAll (atoms (aOf e M)))[j]? = some l := by rw [lnAll_get hj, hl]; rfl
    have hjs : (sortsP (atoms (aOf e M)))[j]? = some (sortLn (atoms (aOf e M)) l) := by unfold sortsP; rw [List.getElem?_map, hjl]; rfl
    have l1 := SlOwn.lenR (cs := c100) g2 (by decide)
    rw [List.length_map, List.length_take] at l1
    have l2 := g3.len1
    rw [List.length_map, List.length_take] at l2
    refine g1.newO' fun b22 W1 T1 x1 hb22 => T1.aggSt 0 rfl rfl rfl rfl fun W2 T2 u2 => ?_
    have x2 : Ext W W2 := x1.step u2 fun k hk => by omega
    have lp2 := x2.ext_get hlp
    refine ⟨lp2, ?_⟩
    obtain ⟨u3, lp3⟩ := upd_putObj (o' := .loop (rc .busy none)) lp2
    generalize W2.putObj (w9.heap.size + 1) (.loop (rc .busy none)) = W3 at *
    let Ls' : Sl → Sl → List (Nat × Obj) := fun r1 r2 => (b22, .cells (Cells.vals c100 (lnT l)).toArray 100 (0, 0)) :: Ls r1 r2
    have hlW : w9.heap.size + 1 < W.heap.size := lt_of_heap hlp
    have nt3 : ∀ t, NoTy W2 (fun k => k = w9.heap.size + 1) t := by
      rintro t k rfl c fr hc
      rw [lp2] at hc; cases hc
    have T3 : St (fun _ => False) w W3 (Ls' r1 r2) := by
      refine St.fresh (ls := Ls' r1 r2) T2 u3 (fun k hk => .inr (by omega)) (fun x hx hk => ?_)
      rcases List.mem_cons.1 hx with rfl | hx
      · simp only at hk; omega
      · have : x.1 ∈ (Ls ⟨none, 0, 0⟩ ⟨none, 0, 0⟩).map (·.1) := List.mem_map.2 ⟨x, hx, rfl⟩ |> fun h => by simpa [Ls] using h
        obtain ⟨y, hy, he⟩ := List.mem_map.1 this
        have := lt9 y hy
        omega
    have o1 : SlOwn W3 w9.heap.size r1 100 4 (flat c100 (((lnAll (atoms (aOf e M))).take j).map lnT)) := (g2.ext x2).ty u3 (nt3 _)
    have o2 : SlOwn W3 w9.heap.size r2 3 1 (nv ((sortsP (atoms (aOf e M))).take j)) := (g3.ext x2).ty u3 (nt3 _)
    have d3 : W3.heap[w9.heap.size]? = some (.deferred (some [])) := u3.get (x2.ext_get g5) (by omega)
    have a3 : W3.heap[ba]? = some (.cells #[.pointer (some (at0 p))] 25 (0, 0)) := u3.get (x2.ext_get g4) (by omega)
    have lt1 : ∀ k, r1.blk k → k < W.heap.size := fun k hk => g2.in.blk_lt hk
    have lt2 : ∀ k, r2.blk k → k < W.heap.size := fun k hk => g3.in.blk_lt hk
    have s3 : W.heap.size ≤ W3.heap.size := by have := x2.size; have := u3.size; omega
    refine join_r (fun x W' => x = (((sortLn (atoms (aOf e M)) l : Nat) : Int), ()) ∧ Ext W3 W') ?_ ?_
    · refine T3.ld 5 rfl (x := some (at0 p)) rfl (T3.ld 0 rfl (x := (l.from_ : Int)) rfl (T3.ld 0 rfl (x := (l.to_ : Int)) rfl ?_))
      refine atoms_call (h.ext T3.upd) fun s W4 o4 x4 => ?_
      rw [sub_nat] at o4
      refine cells_call (off := 0) o4.in (by rw [List.length_take, List.length_drop]; omega) (by decide) fun s2 W5 o5 x5 _ => ?_
      unfold sortLn
      have hcl := cels_le (((atoms (aOf e M)).drop l.from_).take (l.to_ - l.from_)) 0
      rw [List.length_take, List.length_drop] at hcl
      generalize cels (((atoms (aOf e M)).drop l.from_).take (l.to_ - l.from_)) 0 = C at *
      have hCl := CelIn.lenC o5
      refine sloop_r (fun x W' => ∃ q : Nat, q ≤ C.length ∧ x = (0, (q : Int), ()) ∧ Ext W5 W' ∧ (C.take q).any (fun c => c.kind != 0) = false) (fun x _ => ((C.length : Int) - x.2.1).toNat) ⟨0, Nat.zero_le _, rfl, Ext.refl _, rfl⟩ ?_
      rintro _ W6 ⟨q, hq, rfl, x6, hno⟩
      refine sif_r (fun hc => ?_) (fun hc => ?_)
      · simp only [decide_eq_true_eq] at hc
        obtain ⟨c, hc'⟩ : ∃ c, C[q]? = some c := ⟨_, List.getElem?_eq_getElem (by omega)⟩
        refine ix_cel (o5.ext x6) hc' fun qq => (St.start W6).newO fun b34 W7 T7 x7 => T7.aggSt 0 rfl rfl rfl rfl fun W8 T8 u8 => T8.ld 0 rfl (x := (c.kind : Int)) rfl (sif_r (fun hk => ?_) (fun hk => ?_))
        · simp only [bne_iff_ne, ne_eq] at hk
          have hany : C.any (fun c => c.kind != 0) = true := by
            rw [List.any_eq_true]
            exact ⟨c, List.mem_of_getElem? hc', by rw [bne_iff_ne]; omega⟩
          exact ⟨by rw [if_pos hany]; rfl, (x4.trans x5).trans (x6.trans T8.upd)⟩
        · simp only [bne_eq_false_iff_eq] at hk
          have ew : IntKind.wrap .i64 ((q : Int) + 1) = ((q + 1 : Nat) : Int) := by rw [wrap64 (by omega) (by omega)]; omega
          rw [ew]
          refine ⟨⟨q + 1, by omega, rfl, x6.trans T8.upd, ?_⟩, by dsimp only; omega⟩
          rw [List.take_add_one, hc', List.any_append, hno]
          have : c.kind = 0 := by omega
          simp [this]
      · simp only [decide_eq_false_iff_not] at hc
        have : q = C.length := by omega
        subst this
        rw [List.take_length] at hno
        exact ⟨by rw [if_neg (by rw [hno]; decide)]; rfl, (x4.trans x5).trans x6⟩
    rintro _ W4 ⟨rfl, x4⟩
    generalize hso : sortLn (atoms (aOf e M)) l = so at *
    refine drew_r fun W5 x5 _ => ?_
    have x35 := x4.trans x5
    have T5 := T3.ext x35
    have st5 : W.heap.size ≤ W5.heap.size := Nat.le_trans s3 x35.size
    have stepL : ∀ {V : World} {r2' : Sl} {b : Nat} {J : Sl → World → Prop}, Ext W5 V → V.heap[b]? = some (.cells (Cells.vals c100 (lnT l)).toArray 100 (0, 0)) → St (fun _ => False) w V (Ls' r1 r2) →
        (∀ r1' V', SlOwn V' w9.heap.size r1' 100 4 (flat c100 (((lnAll (atoms (aOf e M))).take (j + 1)).map lnT)) → Upd r1.blk V V' → St (fun _ => False) w V' (Ls' r1 r2) → J r1' V') →
        rawT Tryz.prog (.one (.one .sl)) (Builtin.append_ #[95, 95] 95 #[.slice r1.a r1.len r1.cap, .slice (some (at0 b)) 1 1]) J V := by
      intro V _ b J xV hb SV hJ
      have hbox : SlX V ⟨some (at0 b), 1, 1⟩ 4 (flat c100 [lnT l]) := (SlIn.of_box hb (n := 1) (sz := 4) rfl).x
      refine append_rx eLines eLines.ts_ (x := ⟨some (at0 b), 1, 1⟩) ((o1.ext x35).ext xV) hbox (ln_one l) (by
        show (r1.len + 1 + (r1.len + 1) / 4 + 512) * 32 ≤ 2 ^ 48
        omega) (by have := xV.size; omega) fun r1' V' ov lv uv kv => hJ r1' V' ?_ uv ?_
      · have ee : flat c100 (((lnAll (atoms (aOf e M))).take j).map lnT) ++ flat c100 [lnT l] = flat c100 (((lnAll (atoms (aOf e M))).take (j + 1)).map lnT) := by
          rw [List.take_add_one, hjl, List.map_append, flat_append]; rfl
        rw [ee] at ov; exact ov
      · refine SV.fresh uv (fun k hk => .inr (by have := g2.blk_ge hk; omega)) (fun x hx hk => ?_)
        rcases List.mem_cons.1 hx with rfl | hx
        · have := lt1 _ hk; simp only at this; omega
        · have : x.1 ∈ (Ls ⟨none, 0, 0⟩ ⟨none, 0, 0⟩).map (·.1) := List.mem_map.2 ⟨x, hx, rfl⟩ |> fun h => by simpa [Ls] using h
          obtain ⟨y, hy, he⟩ := List.mem_map.1 this
          have h1 := lt9 y hy
          have h2 := g2.blk_ge hk
          omega
    have stepS : ∀ {V : World} {b : Nat} {J : Sl → World → Prop}, SlOwn V w9.heap.size r2 3 1 (nv ((sortsP (atoms (aOf e M))).take j)) → W.heap.size ≤ V.heap.size → V.heap[b]? = some (.cells #[.int .i64 (so : Int)] 3 (0, 0)) → St (fun _ => False) w V (Ls' r1 r2) →
        (∀ r2' V', SlOwn V' w9.heap.size r2' 3 1 (nv ((sortsP (atoms (aOf e M))).take (j + 1))) → Upd r2.blk V V' → St (fun _ => False) w V' (Ls' r1 r2) → J r2' V') →
        rawT Tryz.prog (.one (.one .sl)) (Builtin.append_ #[26, 26] 26 #[.slice r2.a r2.len r2.cap, .slice (some (at0 b)) 1 1]) J V := by
      intro V b J oV sV hb SV hJ
      refine append_rx eInts eInts.ts_ (x := ⟨some (at0 b), 1, 1⟩) oV (iv_box hb) (fun v hv => by rw [List.mem_singleton.1 hv]; rfl) (by
        show (r2.len + 1 + (r2.len + 1) / 4 + 512) * 8 ≤ 2 ^ 48
        omega) (by omega) fun r2' V' ov lv uv kv => hJ r2' V' ?_ uv ?_
      · have ee : nv ((sortsP (atoms (aOf e M))).take j) ++ [.int .i64 (so : Int)] = nv ((sortsP (atoms (aOf e M))).take (j + 1)) := by
          rw [List.take_add_one, hjs]; simp
        rw [ee] at ov; exact ov
      · refine SV.fresh uv (fun k hk => .inr (by have := g3.blk_ge hk; omega)) (fun x hx hk => ?_)
        rcases List.mem_cons.1 hx with rfl | hx
        · have := lt2 _ hk; simp only at this; omega
        · have : x.1 ∈ (Ls ⟨none, 0, 0⟩ ⟨none, 0, 0⟩).map (·.1) := List.mem_map.2 ⟨x, hx, rfl⟩ |> fun h => by simpa [Ls] using h
          obtain ⟨y, hy, he⟩ := List.mem_map.1 this
          have h1 := lt9 y hy
          have h2 := g3.blk_ge hk
          omega
    have finR : ∀ {V : World} {r1' r2' : Sl}, St (fun _ => False) w V (Ls' r1 r2) → SlOwn V w9.heap.size r1' 100 4 (flat c100 (((lnAll (atoms (aOf e M))).take (j + 1)).map lnT)) → SlOwn V w9.heap.size r2' 3 1 (nv ((sortsP (atoms (aOf e M))).take (j + 1))) →
        V.heap[w9.heap.size]? = some (.deferred (some [])) → V.heap[ba]? = some (.cells #[.pointer (some (at0 p))] 25 (0, 0)) → V.heap[w9.heap.size + 1]? = some (.loop (rc .busy none)) →
        stC (at0 b13) (.slice r1'.a r1'.len r1'.cap) (stC (at0 b14) (.slice r2'.a r2'.len r2'.cap) (endR (w9.heap.size + 1) rc none R)) V := by
      intro V r1' r2' SV q1 q2 q3 q4 q5
      refine SV.stC 2 rfl Nat.one_pos fun V1 SV1 uv1 => SV1.stC 1 rfl Nat.one_pos fun V2 SV2 uv2 => ?_
      have p1 := SlOwn.box (SlOwn.box q1 (SV.at_ 2 rfl) (by decide) uv1) (SV1.at_ 1 rfl) (by decide) uv2
      have p2 := SlOwn.box (SlOwn.box q2 (SV.at_ 2 rfl) (by decide) uv1) (SV1.at_ 1 rfl) (by decide) uv2
      have gg : ∀ {k : Nat} {o : Obj}, k ≠ b13 → k ≠ b14 → V.heap[k]? = some o → V2.heap[k]? = some o := fun h13 h14 ho => uv2.get (uv1.get ho h13) h14
      have p5 := gg (by omega) (by omega) q5
      refine ⟨⟨_, _, p5⟩, ?_⟩
      obtain ⟨uv3, lpv⟩ := upd_putObj (o' := .loop (rc .ready none)) p5
      refine hR _ (invL ⟨r1', r2', SV2.tail, p1, p2, gg (fun hc => by rw [hc] at q4; rw [SV.at_ 2 rfl] at q4; cases q4) (fun hc => by rw [hc] at q4; rw [SV.at_ 1 rfl] at q4; cases q4) q4, gg (by omega) (by omega) q3⟩ uv3 fun o ho => by rw [p5] at ho; cases ho; exact ⟨_, rfl⟩) lpv
    have d5 := x35.ext_get d3
    have a5 := x35.ext_get a3
    have lp5 := x35.ext_get lp3
    have keep1 : ∀ {V V' : World} {k : Nat} {o : Obj}, Upd r1.blk V V' → V.heap[k]? = some o → (∀ c fr, o ≠ .cells c 100 fr) → SlOwn V w9.heap.size r1 100 4 (flat c100 (((lnAll (atoms (aOf e M))).take j).map lnT)) → V'.heap[k]? = some o := by
      intro V V' k o u ho hc ov
      refine u.get ho fun hk => ?_
      obtain ⟨c, fr, hcc⟩ := ov.in.blk_cells hk
      rw [ho] at hcc
      exact hc c fr (Option.some.inj hcc)
    have keep2 : ∀ {V V' : World} {k : Nat} {o : Obj}, Upd r2.blk V V' → V.heap[k]? = some o → (∀ c fr, o ≠ .cells c 3 fr) → SlOwn V w9.heap.size r2 3 1 (nv ((sortsP (atoms (aOf e M))).take j)) → V'.heap[k]? = some o := by
      intro V V' k o u ho hc ov
      refine u.get ho fun hk => ?_
      obtain ⟨c, fr, hcc⟩ := ov.in.blk_cells hk
      rw [ho] at hcc
      exact hc c fr (Option.some.inj hcc)
    refine T5.ld 2 rfl (x := r1) rfl (T5.lds 0 (lnT l) rfl (T5.ld 1 rfl (x := r2) rfl ?_))
    have tail1 : ∀ {V' : World} {r1' : Sl} {b : Nat}, St (fun _ => False) w V' (Ls' r1 r2) → SlOwn V' w9.heap.size r1' 100 4 (flat c100 (((lnAll (atoms (aOf e M))).take (j + 1)).map lnT)) → V'.heap[b]? = some (.cells #[.int .i64 (so : Int)] 3 (0, 0)) → W.heap.size ≤ V'.heap.size →
        SlOwn V' w9.heap.size r2 3 1 (nv ((sortsP (atoms (aOf e M))).take j)) → V'.heap[w9.heap.size]? = some (.deferred (some [])) → V'.heap[ba]? = some (.cells #[.pointer (some (at0 p))] 25 (0, 0)) → V'.heap[w9.heap.size + 1]? = some (.loop (rc .busy none)) →
        rawT Tryz.prog (.one (.one .sl)) (Builtin.append_ #[26, 26] 26 #[.slice r2.a r2.len r2.cap, .slice (some (at0 b)) 1 1]) (fun x42 => stC (at0 b13) (.slice r1'.a r1'.len r1'.cap) (stC (at0 b14) (.slice x42.a x42.len x42.cap) (endR (w9.heap.size + 1) rc none R))) V' := by
      intro V' r1' b SV q1 hb sV q2 q3 q4 q5
      refine stepS q2 sV hb SV fun r2' V2 ov2 u2 SV2 => ?_
      exact finR SV2 (q1.ty u2 (fun k hk c fr hc => by
        obtain ⟨c', fr', hc'⟩ := q2.in.blk_cells hk
        rw [hc'] at hc; cases hc)) ov2 (keep2 u2 q3 (fun _ _ h => by cases h) q2) (keep2 u2 q4 (fun _ _ h => by cases h) q2) (keep2 u2 q5 (fun _ _ h => by cases h) q2)
    have after1 : ∀ {V V' : World}, Ext W5 V → Upd r1.blk V V' → SlOwn V' w9.heap.size r2 3 1 (nv ((sortsP (atoms (aOf e M))).take j)) ∧ V'.heap[w9.heap.size]? = some (.deferred (some [])) ∧ V'.heap[ba]? = some (.cells #[.pointer (some (at0 p))] 25 (0, 0)) ∧ V'.heap[w9.heap.size + 1]? = some (.loop (rc .busy none)) := by
      intro V V' xV uV
      have ov := (o1.ext x35).ext xV
      exact ⟨((o2.ext x35).ext xV).ty uV (fun k hk c fr hc => by
        obtain ⟨c', fr', hc'⟩ := ov.in.blk_cells hk
        rw [hc'] at hc; cases hc), keep1 uV (xV.ext_get d5) (fun _ _ h => by cases h) ov, keep1 uV (xV.ext_get a5) (fun _ _ h => by cases h) ov, keep1 uV (xV.ext_get lp5) (fun _ _ h => by cases h) ov⟩
    refine ⟨?_, ?_⟩
    ·
      refine T5.newO' fun b39 V1 SV1 xv1 hb39 => SV1.keep 2 rfl (v := .slice r2.a r2.len r2.cap) rfl (SV1.keeps 1 (x := lnT l) rfl (SV1.keep 3 rfl (v := .slice r1.a r1.len r1.cap) rfl ?_))
      refine SV1.newO fun b40 V2 SV2 xv2 => SV2.keep 3 rfl (v := .slice r2.a r2.len r2.cap) rfl (SV2.keep 4 rfl (v := .slice r1.a r1.len r1.cap) rfl ?_)
      have xv := xv1.trans xv2
      refine stepL (r2' := r2) xv (SV2.at_ 0 rfl) SV2.tail.tail fun r1' V3 ov3 u3 SV3 => SV3.keep 1 rfl (v := .slice r2.a r2.len r2.cap) rfl ?_
      obtain ⟨z1, z2, z3, z4⟩ := after1 xv u3
      exact tail1 SV3 ov3 (keep1 u3 (SV2.at_ 1 rfl) (fun _ _ h => by cases h) ((o1.ext x35).ext xv)) (by have := xv.size; have := u3.size; omega) z1 z2 z3 z4
    · refine T5.newO fun b43 V1 SV1 xv1 => SV1.keep 2 rfl (v := .slice r2.a r2.len r2.cap) rfl (SV1.keep 3 rfl (v := .slice r1.a r1.len r1.cap) rfl ⟨?_, ?_⟩)
      · refine SV1.newO' fun b44 V2 SV2 xv2 hb44 => SV2.keep 3 rfl (v := .slice r2.a r2.len r2.cap) rfl (SV2.keeps 2 (x := lnT l) rfl (SV2.keep 4 rfl (v := .slice r1.a r1.len r1.cap) rfl ?_))
        have xv := xv1.trans xv2
        refine stepL (r2' := r2) xv (SV2.at_ 1 rfl) SV2.tail.tail fun r1' V3 ov3 u3 SV3 => SV3.keep 1 rfl (v := .slice r2.a r2.len r2.cap) rfl ?_
        obtain ⟨z1, z2, z3, z4⟩ := after1 xv u3
        exact tail1 SV3 ov3 (keep1 u3 (SV2.at_ 0 rfl) (fun _ _ h => by cases h) ((o1.ext x35).ext xv)) (by have := xv.size; have := u3.size; omega) z1 z2 z3 z4
      · refine stepL (r2' := r2) xv1 (SV1.at_ 0 rfl) SV1.tail fun r1' V3 ov3 u3 SV3 => SV3.keep 1 rfl (v := .slice r2.a r2.len r2.cap) rfl ⟨?_, trivial⟩
        obtain ⟨z1, z2, z3, z4⟩ := after1 xv1 u3
        refine SV3.newO fun b48 V4 SV4 xv4 => SV4.keep 2 rfl (v := .slice r2.a r2.len r2.cap) rfl (SV4.keeps 1 (x := lnT l) rfl (SV4.keep 3 rfl (v := .slice r1.a r1.len r1.cap) rfl ?_))
        exact tail1 SV4.tail (ov3.ext xv4) (SV4.at_ 0 rfl) (by have := xv1.size; have := u3.size; have := xv4.size; omega) (z1.ext xv4) (xv4.ext_get z2) (xv4.ext_get z3) (xv4.ext_get z4)
  ·
    intro W W' hI hD uW hlo
    obtain ⟨r1, r2, g1, g2, g3, g4, g5⟩ := invL hI uW hlo
    rw [List.take_of_length_le (by omega)] at g2
    rw [List.take_of_length_le (by omega)] at g3
    have l1 := SlOwn.lenR (cs := c100) g2 (by decide)
    rw [List.length_map] at l1
    show (ld .sl (at0 b13) _) W'
    refine g1.ld 1 rfl (x := r1) rfl (g1.newO fun b70 V1 SV1 xv1 => SV1.aggSt 0 rfl rfl rfl rfl fun V2 SV2 uv2 => ?_)
    have q3 : SlIn V2 r2 3 1 (nv (sortsP (atoms (aOf e M)))) := SlIn.box (g3.in.ext xv1) (SV1.at_ 0 rfl) (by decide) uv2
    have q2 : SlIn V2 r1 100 4 (flat c100 ((lnAll (atoms (aOf e M))).map lnT)) := SlIn.box (g2.in.ext xv1) (SV1.at_ 0 rfl) (by decide) uv2
    have d2 : V2.heap[w9.heap.size]? = some (.deferred (some [])) := uv2.get (xv1.ext_get g5) fun hc => by
      have := SV1.at_ 0 rfl
      rw [← hc, xv1.ext_get g5] at this
      cases this
    have el : ((r1.len : Nat) : Int) = (((sortsP (atoms (aOf e M))).length : Nat) : Int) := by omega
    rw [el] at SV2
    have hf : SortX V2 (.func (.func 60) #[] #[.pointer (some (at0 b14))]) (sortsP (atoms (aOf e M))) := sortX_paras q3 (SV2.at_ 1 rfl)
    let F : Value := .func (.func 60) #[] #[.pointer (some (at0 b14))]
    let R : Value := .agg (Cells.vals c89 (rowT (sortsP (atoms (aOf e M))).length F)).toArray
    refine SV2.lds 0 (rowT (sortsP (atoms (aOf e M))).length F) rfl ?_
    refine join_r (fun x W => x = ((if kind = 70 then (.func (.func 54) #[R] #[] : Value) else .func (.func 53) #[R] #[]), ()) ∧ V2 = W) ?_ ?_
    · refine SV2.ld 4 rfl (x := kind) rfl (sif_r (fun h => ?_) (fun h => ?_))
      · simp only [beq_iff_eq] at h
        rw [if_pos h]
        exact SV2.lds 0 (rowT (sortsP (atoms (aOf e M))).length F) rfl ⟨rfl, rfl⟩
      · simp only [beq_eq_false_iff_ne, ne_eq] at h
        rw [if_neg h]
        exact ⟨rfl, rfl⟩
    rintro _ _ ⟨rfl, rfl⟩
    refine SV2.lds 4 (mvT kind count arg) rfl (times_call hcn fun V3 xv3 => ?_)
    have SV3 := SV2.ext xv3
    have tp := times_pos count
    have tl := times_lt hcn
    have hil : i < (sortsP (atoms (aOf e M))).length := by omega
    have hll : (sortsP (atoms (aOf e M))).length < 2 ^ 60 := by omega
    have fin2 : ∀ V, Ext V3 V → (fun (x78 : Int × Int × Bool × Unit) => sif (!x78.2.2.1) (aggSt (at0 b3) (.agg #[.int .i64 0, .int .i64 0, .int .i64 0]) 3 (endM w9.heap.size (lds c34 (at0 b3) fun x79 => K (x79, 90, ()))))
        (drew (ld .sl (at0 b13) fun x80 => ix x80.a x80.len x78.1 fun p81 => ld (.int .i64) (p81.add (scaled (Int.toNat x78.1) 4)) fun x82 => ld .sl (at0 b13) fun x83 => ix x83.a x83.len (IntKind.wrap .i64 (x78.2.1 - 1)) fun p84 => ld (.int .i64) ((p84.add (scaled (Int.toNat (IntKind.wrap .i64 (x78.2.1 - 1))) 4)).add 2) fun x85 =>
          aggSt (at0 b3) (.agg #[.int .i64 x82, .int .i64 x85, .int .i64 1]) 3 (endM w9.heap.size (lds c34 (at0 b3) fun x86 => K (x86, 0, ())))))) (pickV (pickP (decide (kind = 70)) (sortsP (atoms (aOf e M))) i (times count))) V := by
      intro V xV
      have SV := SV3.ext xV
      have last : ∀ {V : World} {s : Int × Int × Int} {n : Int}, St (fun _ => False) w V [(b70, .cells (Cells.vals c89 (rowT (sortsP (atoms (aOf e M))).length F)).toArray 89 (0, 0)), (b14, B14 r2), (b13, B13 r1), (b3, Z), (b2, Mv), (b1, Pt)] → V.heap[w9.heap.size]? = some (.deferred (some [])) → (∀ w', Ext w w' → K (spT s, n, ()) w') →
          aggSt (at0 b3) (.agg #[.int .i64 s.1, .int .i64 s.2.1, .int .i64 s.2.2]) 3 (endM w9.heap.size (lds c34 (at0 b3) fun x => K (x, n, ()))) V := by
        intro V s n SV hD hk
        refine SV.aggSt 3 rfl rfl rfl rfl fun V1 SV1 uv1 => ?_
        have b3lt := lt9 (b3, Z) (by simp [Ls])
        have hD1 : V1.heap[w9.heap.size]? = some (.deferred (some [])) := uv1.get hD (by simp only at b3lt; omega)
        refine ⟨hD1, ?_⟩
        obtain ⟨uv2, _⟩ := upd_putObj (o' := .deferred none) hD1
        have SV2 := SV1.fresh uv2 (fun k hk => .inr (by omega)) (fun x hx hk => by
          have := (SV1.loc x hx).1
          rw [hk, hD1] at this
          have h2 := Option.some.inj this
          simp only [List.set_cons_succ, List.set_cons_zero, List.mem_cons, List.not_mem_nil, or_false] at hx
          rcases hx with rfl | rfl | rfl | rfl | rfl | rfl <;> cases h2)
        exact SV2.lds 3 (spT s) rfl (hk _ SV2.upd)
      have dV : V.heap[w9.heap.size]? = some (.deferred (some [])) := (xv3.trans xV).ext_get d2
      cases hp : pickP (decide (kind = 70)) (sortsP (atoms (aOf e M))) i (times count) with
      | none =>
        rw [hp] at hK
        exact sif_true (last (s := (0, 0, 0)) SV dV hK)
      | some ft =>
        obtain ⟨f, t⟩ := ft
        rw [hp] at hK
        have hb : f ≤ i ∧ i < t ∧ t ≤ (sortsP (atoms (aOf e M))).length := by
          unfold pickP at hp
          split at hp
          · exact aroundP_le hp
          · exact innerP_le hp
        obtain ⟨c, hc⟩ : ∃ c, (lnAll (atoms (aOf e M)))[f]? = some c := ⟨_, List.getElem?_eq_getElem (by omega)⟩
        obtain ⟨d, hd⟩ : ∃ d, (lnAll (atoms (aOf e M)))[t - 1]? = some d := ⟨_, List.getElem?_eq_getElem (by omega)⟩
        dsimp only at hK
        rw [hc, hd] at hK
        simp only [Option.map_some, Option.getD_some] at hK
        have ew : IntKind.wrap .i64 ((t : Int) - 1) = ((t - 1 : Nat) : Int) := by rw [wrap64 (by omega) (by omega)]; omega
        refine sif_false (SV.drew fun V4 SV4 xv4 _ => ?_)
        have q4 := q2.ext ((xv3.trans xV).trans xv4)
        dsimp only [pickV]
        rw [ew]
        refine SV4.ld 2 rfl (x := r1) rfl (ix_ldf0 (cs := c100) (c := .int .i64) q4 (by omega) (x := lnT c) (y := (c.from_ : Int)) (by rw [Int.toNat_natCast, List.getElem?_map, hc]; rfl) rfl fun q1 => SV4.ld 2 rfl (x := r1) rfl (ix_ldf (cs := c100) (c := .int .i64) (j := 2) q4 (by omega) (x := lnT d) (y := (d.next : Int)) (by rw [Int.toNat_natCast, List.getElem?_map, hd]; rfl) rfl fun q2 => ?_))
        exact last (s := (c.from_, d.next, 1)) SV4 (xv4.ext_get dV) hK
    by_cases hk : kind = 70
    · rw [if_pos hk]
      have fin' := fin2
      rw [decide_eq_true hk] at fin'
      exact func_m (a := R) (by kernel_rfl) (around_call (hf.ext xv3) rfl hil hll tp tl fin')
    · rw [if_neg hk]
      have fin' := fin2
      rw [decide_eq_false hk] at fin'
      exact func_m (a := R) (by kernel_rfl) (inner_call (hf.ext xv3) rfl hil hll tp tl fin')
theorem take_call {at_ kind count arg : Int} (h : Txt w p e lim na O M) (hcn : count < 2 ^ 63) {K : Cells.T c34 × Int × Unit → World → Prop} (hK : ∀ w', Ext w w' → K (spT (takeP (atoms (aOf e M)) at_ kind count arg).1, (takeP (atoms (aOf e M)) at_ kind count arg).2, ()) w') :
    callT Tryz.prog 20 #[.pointer (some (at0 p)), .int .i64 at_, .agg (Cells.vals c39 (mvT kind count arg)).toArray] (.tup [(.agg c34), (.one (.int .i64))]) K w := by
  refine F20_calls (a2 := mvT kind count arg) ?_
  unfold F20
  unfold takeP at hK
  let Mv : Obj := .cells (Cells.vals c39 (mvT kind count arg)).toArray 39 (0, 0)
  let Z : Obj := .cells #[.int .i64 0, .int .i64 0, .int .i64 0] 34 (0, 0)
  refine (St.start w).newO fun b1 w1 S1 e1 => S1.newO fun b2 w2 S2 e2 => ?_
  have S2 : St (fun _ => False) w w2 [(b2, Z), (b1, Mv)] := S2
  have h2 := h.ext S2.upd
  have fin : ∀ {W : World} {s : Int × Int × Int} {n : Int}, Ext w2 W → (∀ w', Ext w w' → K (spT s, n, ()) w') → aggSt (at0 b2) (.agg #[.int .i64 s.1, .int .i64 s.2.1, .int .i64 s.2.2]) 3 (lds c34 (at0 b2) fun x => K (x, n, ())) W := fun {W s n} x hk =>
    (S2.ext x).aggSt 0 rfl rfl rfl rfl fun w1 S1 _ => S1.lds 0 (spT s) rfl (hk w1 S1.upd)
  refine S2.ld 1 rfl (x := kind) rfl (sif_r (fun h64 => ?_) (fun h64 => ?_))
  · simp only [decide_eq_true_eq] at h64
    rw [if_pos h64] at hK
    exact S2.lds 1 (mvT kind count arg) rfl (words_call h2 hcn fun w3 x3 => fin x3 hK)
  simp only [decide_eq_false_iff_not] at h64
  rw [if_neg h64] at hK
  refine S2.ld 1 rfl (x := kind) rfl (sif_r (fun h66 => ?_) (fun h66 => ?_))
  · simp only [decide_eq_true_eq] at h66
    rw [if_pos h66] at hK
    exact S2.lds 1 (mvT kind count arg) rfl (quotes_call h2 hcn fun w3 x3 => fin x3 hK)
  simp only [decide_eq_false_iff_not] at h66
  rw [if_neg h66] at hK
  refine S2.ld 1 rfl (x := kind) rfl (sif_r (fun h68 => ?_) (fun h68 => ?_))
  · simp only [decide_eq_true_eq] at h68
    rw [if_pos h68] at hK
    exact S2.lds 1 (mvT kind count arg) rfl (blocks_call h2 hcn fun w3 x3 => fin x3 hK)
  · simp only [decide_eq_false_iff_not] at h68
    rw [if_neg h68] at hK
    exact S2.lds 1 (mvT kind count arg) rfl (paras_call h2 hcn fun w3 x3 => fin x3 hK)
end
end Go.Proofs.YtabcpghhfeplaaaGreat
set_option linter.unusedSimpArgs false
set_option linter.unusedVariables false
set_option maxRecDepth 100000
namespace Go.Proofs.YtabcpghhfeplaaaGreat
open Go Go.Vx Go.ChangeShapes Go.WideShapes Go.RowKit Cdc
theorem Tryz.own : ownKnob Tryz.prog.godebug = none := by kernel_rfl
theorem Tryz.laidOut : laidOutB Tryz.prog = true := by kernel_rfl
theorem ui : Tryz.prog.underlying 3 = some (.int .i64) := i3_ok.und
theorem u4 : Tryz.prog.underlying 4 = some .bool := i4_ok.und
theorem uInts : Tryz.prog.underlying 26 = some (.slice 3) := i26_ok.und
theorem ci : Tryz.prog.cellsOf 3 = 1 := by kernel_rfl
theorem bi : Tryz.prog.bytesOf 3 = 8 := by kernel_rfl
structure LOp where
  who : Int
  kind : Int
  at_ : Int
  move : Int
  count : Int
  arg : Int
  put : List Int
structure LOp.In (w : World) (y : Cells.T c43) (o : LOp) : Prop where
  who : y.1 = o.who
  kind : y.2.1 = o.kind
  at_ : y.2.2.1 = o.at_
  move : y.2.2.2.1 = o.move
  count : y.2.2.2.2.1 = o.count
  arg : y.2.2.2.2.2.1 = o.arg
  put : SlX w y.2.2.2.2.2.2.1 1 (iv o.put)
  i1 : In64 o.who ∧ In64 o.kind ∧ In64 o.at_ ∧ In64 o.move ∧ In64 o.count ∧ In64 o.arg
  i2 : ∀ n ∈ o.put, In64 n
  len : o.put.length ≤ 2 ^ 44
  lt : ∀ k, y.2.2.2.2.2.2.1.blk k → y.2.2.2.2.2.2.1.len = 0 ∨ k < w.heap.size
structure LOp.All (w : World) (s : Sl) (ys : List (Cells.T c43)) (os : List LOp) : Prop where
  row : SlX w s 7 (flat c43 ys)
  len : ys.length = os.length
  few : os.length ≤ 2 ^ 42
  each : ∀ (i : Nat) y o, ys[i]? = some y → os[i]? = some o → o.In w y
theorem wf64 {n : Int} (h : (Lit.int .i64 n).wf = true) : In64 n := by
  have h1 : IntKind.min .i64 = -9223372036854775808 := rfl
  have h2 : IntKind.max .i64 = 9223372036854775807 := rfl
  simp [Lit.wf, h1, h2] at h
  unfold In64
  omega
section
variable {H : Type} {enc : TypeId × Value → H} {W : World} {base fuel : Nat} {held : Bool}
theorem open_ints {cs : List Value} {x : DataW H × List MemPlace} (h : DataW.trod enc Tryz.prog W base (fun _ => true) held fuel 26 cs = some x) (hw : ∀ n ∈ x.1.weights Tryz.prog 26, n ≤ reachBytes) :
    ∃ (s : Sl) (l : List Int), cs = [.slice s.a s.len s.cap] ∧ SlX W s 1 (iv l) ∧ l.length ≤ 2 ^ 44 ∧ ∀ n ∈ l, In64 n := by
  obtain ⟨s, l, h1, h2, h3, h4⟩ := open_text uInts ui ci bi h hw
  exact ⟨s, l, h1, h2, by omega, fun n hn => wf64 (h4 n hn)⟩
theorem SlX.lt {w : World} {s : Sl} {sz : Nat} {us : List Value} (h : SlX w s sz us) : ∀ k, s.blk k → s.len = 0 ∨ k < w.heap.size := by
  intro k hk
  rcases h.at_ with ⟨h, _⟩ | ⟨t, h⟩
  · exact .inl h
  · exact .inr (h.blk_lt hk)
end
theorem trodAll_get {H : Type} {enc : TypeId × Value → H} {P : Program} {w : World} {base : Nat} {spare : Nat → Bool} {held : Bool} : ∀ {ts : List TypeId} {vs : List Value} {ds : List (DataW H)} {ps : List MemPlace}, DataW.TrodAll enc P w base spare held ts vs ds ps →
    vs.length = ts.length ∧ ds.length = ts.length ∧ ∀ (j : Nat) t v d, ts[j]? = some t → vs[j]? = some v → ds[j]? = some d → ∃ p, DataW.Trod enc P w base spare held t v d p
  | [], [], [], _, _ => ⟨rfl, rfl, fun j t v d h => by simp at h⟩
  | t :: ts, v :: vs, d :: ds, ps, ⟨p, q, h1, h2, e⟩ => by
    obtain ⟨a, b, c⟩ := trodAll_get h2
    refine ⟨by simp [a], by simp [b], fun j t' v' d' ht hv hd => ?_⟩
    match j with
    | 0 => cases ht; cases hv; cases hd; exact ⟨p, h1⟩
    | j + 1 => exact c j t' v' d' (by simpa using ht) (by simpa using hv) (by simpa using hd)
  | [], _ :: _, _, _, h => h.elim
  | [], [], _ :: _, _, h => h.elim
  | _ :: _, [], _, _, h => h.elim
  | _ :: _, _ :: _, [], _, h => h.elim
theorem list_5 {α : Type} (l : List α) (h : l.length = 5) : ∃ v0 v1 v2 v3 v4, l = [v0, v1, v2, v3, v4] := by
  match l, h with
  | [v0, v1, v2, v3, v4], _ => exact ⟨v0, v1, v2, v3, v4, rfl⟩
theorem weigh {H : Type} {ts : List TypeId} {ds : List (DataW H)} (h : (DataW.weightsEach Tryz.prog ts ds).all (· ≤ reachBytes) = true) (j : Nat) {t : TypeId} {d : DataW H} (ht : ts[j]? = some t) (hd : ds[j]? = some d) : ∀ n ∈ d.weights Tryz.prog t, n ≤ reachBytes := by
  intro n hn
  have := List.all_eq_true.1 h _ (DataW.weights_mem_each ht hd n hn)
  simpa using this
section
variable {H : Type} {enc : TypeId × Value → H} {W : World} {base : Nat}
theorem arg_int {v : Value} {d : DataW H} {p : List MemPlace} (hv : Value.okWide Tryz.prog W .any base 3 v) (h : DataW.Trod enc Tryz.prog W 0 (fun _ => true) true 3 v d p) (hw : ∀ n ∈ d.weights Tryz.prog 3, n ≤ reachBytes) : ∃ n, v = .int .i64 n ∧ In64 n := by
  obtain ⟨n, rfl⟩ := okWide_int ui hv
  obtain ⟨f, hf⟩ := h
  obtain ⟨m, e, hm⟩ := open_i64 ui hf
  have : n = m := by simpa [Value.cells] using e
  subst this
  exact ⟨n, rfl, wf64 hm⟩
theorem arg_ints {v : Value} {d : DataW H} {p : List MemPlace} (hv : Value.okWide Tryz.prog W .any base 26 v) (h : DataW.Trod enc Tryz.prog W 0 (fun _ => true) true 26 v d p) (hw : ∀ n ∈ d.weights Tryz.prog 26, n ≤ reachBytes) :
    ∃ (s : Sl) (l : List Int), v = .slice s.a s.len s.cap ∧ SlX W s 1 (iv l) ∧ l.length ≤ 2 ^ 44 ∧ ∀ n ∈ l, In64 n := by
  obtain ⟨a, len, cap, rfl⟩ := okWide_slice uInts hv
  obtain ⟨n, hn⟩ := h
  obtain ⟨s, l, e, h1⟩ := open_ints hn hw
  exact ⟨s, l, by simpa [Value.cells] using e, h1⟩
end
theorem tsize : 200 ≤ Tryz.prog.types.size := of_decide_eq_true (by kernel_rfl)
theorem recInt : Tryz.prog.readableRec 3 = true := by kernel_rfl
theorem recInts : Tryz.prog.readableRec 26 = true := by kernel_rfl
theorem recOps : Tryz.prog.readableRec 41 = true := by kernel_rfl
theorem recStart : Tryz.prog.readableRec 24 = true := by kernel_rfl
theorem recs {t : TypeId} (h : t = 3 ∨ t = 26 ∨ t = 41 ∨ t = 24) : Tryz.prog.readableRec t = true ∧ t < Tryz.prog.types.size := by
  have := tsize
  rcases h with rfl | rfl | rfl | rfl
  · exact ⟨recInt, Nat.lt_of_lt_of_le (by decide) this⟩
  · exact ⟨recInts, Nat.lt_of_lt_of_le (by decide) this⟩
  · exact ⟨recOps, Nat.lt_of_lt_of_le (by decide) this⟩
  · exact ⟨recStart, Nat.lt_of_lt_of_le (by decide) this⟩
end Go.Proofs.YtabcpghhfeplaaaGreat
set_option linter.unusedSimpArgs false
set_option linter.unusedVariables false
set_option maxRecDepth 100000
namespace Go.Proofs.YtabcpghhfeplaaaGreat
open Go Go.Vx Cdc Trx Gly Clu Lns Obx
section
variable {w w' : World} {S : Nat → Prop} {p : Nat} {e : Enc} {lim na : Nat} {O : Nat → Prop} {M : Parts}
theorem copied_call {A : List Int} {s : Sl} {t : TypeId} (hs : SlIn w s t 1 (iv A)) (hl : A.length < 2 ^ 40) {K : Sl → World → Prop} (hK : ∀ s' w', SlOwn w' w.heap.size s' 3 1 (iv A) → Ext w w' → K s' w') :
    callT Tryz.prog 46 #[.slice s.a s.len s.cap] (.one (.one .sl)) K w := by
  refine F46_calls ?_
  unfold F46
  have hlen : A.length = s.len := by have := hs.len1; rwa [List.length_map] at this
  refine join_r (fun x W => SlOwn W w.heap.size x.1 3 1 (iv A) ∧ Ext w W) ?_ (fun x W h => hK _ _ h.1 h.2)
  refine sloop_r (fun x W => ∃ i : Nat, i ≤ A.length ∧ x.2 = ((i : Int), ()) ∧ SlOwn W w.heap.size x.1 3 1 (iv (A.take i)) ∧ Ext w W) (fun x _ => ((A.length : Int) - x.2.1).toNat) ⟨0, Nat.zero_le _, rfl, SlOwn.nil _ _ _ _, Ext.refl w⟩ ?_
  rintro ⟨r, _⟩ W ⟨i, hi, rfl, hr, eW⟩
  dsimp only at hr ⊢
  have hrl := hr.len1
  rw [List.length_map, List.length_take] at hrl
  refine sif_r (fun hc => ?_) (fun hc => ?_)
  · simp only [decide_eq_true_eq] at hc
    obtain ⟨a, ha⟩ : ∃ a, A[i]? = some a := ⟨_, List.getElem?_eq_getElem (by omega)⟩
    have ew : IntKind.wrap .i64 ((i : Int) + 1) = ((i + 1 : Nat) : Int) := by rw [wrap64 (by omega) (by omega)]; omega
    rw [ew]
    refine ix_ld (c := .int .i64) (xs := A) (hs.ext eW) (by omega) (x := a) (by rw [Int.toNat_natCast]; exact ha) fun q => newO_r fun b7 w4 e4 n4 hb4 _ => ?_
    refine append_rx eInts eInts.ts_ (x := ⟨some (at0 b7), 1, 1⟩) (hr.ext e4) (iv_box n4) (fun v hv => by rw [List.mem_singleton.1 hv]; rfl) (by
      show (r.len + 1 + (r.len + 1) / 4 + 512) * 8 ≤ 2 ^ 48
      omega) (by have := eW.size; have := e4.size; omega) fun r' w5 o5 l5 u5 k5 => ?_
    have e5 : iv (A.take i) ++ [.int .i64 a] = iv (A.take (i + 1)) := by rw [List.take_add_one, ha]; simp
    rw [e5] at o5
    exact ⟨⟨i + 1, by omega, rfl, o5, (eW.trans e4).step u5 fun k hk => hr.blk_ge hk⟩, by omega⟩
  · simp only [decide_eq_false_iff_not] at hc
    have e5 : A.take i = A := List.take_of_length_le (by omega)
    rw [e5] at hr
    exact ⟨hr, eW⟩
abbrev bothO (p : Nat) (s : Sl) : Obj := .cells #[.pointer (some (at0 p)), .slice s.a s.len s.cap] 28 (0, 0)
theorem spans_call {sp : Int × Int × Int} {K : Bool → World → Prop} (hK : ∀ w', Ext w w' → K true w') :
    callT Tryz.prog 30 #[.agg (Cells.vals c34 (spT sp)).toArray, .int .i64 0, .int .i64 sp.1, .int .i64 sp.2.1, .int .i64 sp.2.2] (.one (.one .bool)) K w := by
  refine F30_calls (a0 := spT sp) ?_
  unfold F30
  have tr : ∀ {W : World} {b : Bool} {X Y : World → Prop}, b = true → X W → sif b X Y W := fun hb hx => by subst hb; exact sif_true hx
  refine (St.start w).newO fun b1 w1 S1 e1 => sif_true ?_
  refine S1.ld 0 rfl (x := sp.1) rfl (tr (by rw [beq_iff_eq]) (S1.ld 0 rfl (x := sp.2.1) rfl (tr (by rw [beq_iff_eq]) (S1.ld 0 rfl (x := sp.2.2) rfl ?_))))
  have := hK w1 S1.upd
  rwa [show (sp.2.2 == sp.2.2) = true by rw [beq_iff_eq]]
end
end Go.Proofs.YtabcpghhfeplaaaGreat
set_option linter.unusedSimpArgs false
set_option linter.unusedVariables false
set_option maxRecDepth 100000
namespace Go.Proofs.YtabcpghhfeplaaaGreat
open Go Go.Vx Cdc Trx
section
variable {w w' : World} {S : Nat → Prop} {p : Nat} {e : Enc} {lim na : Nat} {O : Nat → Prop} {M : Parts}
def bts (e : Enc) (l : List Int) : Bs := l.flatMap (pt e)
def prs (e : Enc) (l : List Int) : As := l.map fun a => (a, sz e a)
def Fit (e : Enc) (l : List Int) : Prop := ∀ a ∈ l, Scalar a ∧ sz e a ≠ 0
theorem ats_bts {e : Enc} : ∀ {l : List Int}, Fit e l → ats e (bts e l) = prs e l
  | [], _ => ats_nil e
  | a :: l, h => by
    have h1 := h a List.mem_cons_self
    show ats e (pt e a ++ bts e l) = _
    rw [ats_pt h1.1 h1.2, ats_bts fun x hx => h x (List.mem_cons_of_mem _ hx)]
    rfl
theorem atoms_prs (e : Enc) (l : List Int) : atoms (prs e l) = l := by
  unfold atoms prs
  rw [List.map_map]
  have : ((fun x : Int × Nat => x.1) ∘ fun a : Int => (a, sz e a)) = id := rfl
  show l.map _ = l
  rw [this, List.map_id]
theorem bts_len {e : Enc} {l : List Int} (h : Fit e l) : (bts e l).length = szs (prs e l) := by rw [← ats_bts h, szs_all]
theorem bts_app (e : Enc) (l m : List Int) : bts e (l ++ m) = bts e l ++ bts e m := by simp [bts]
theorem append_run3 (P : Program) {ts xt rt : TypeId} {e xe : TypeId} {i : TypeInfo} {z : Value} (hts : P.underlying ts = some (.slice e)) (hxt : P.underlying xt = some (.slice xe)) (hi : P.info? e = some i) (hz : i.zero = some z)
    {B : Nat} {s x : Sl} {vs us : List Value} (hs : SlOwn w B s e i.size vs) (hx : SlX w x i.size us) (h1 : ∀ v ∈ us, isOne v = true) (hzl : z.cells.size = i.size)
    (hroom : (s.len + x.len + (s.len + x.len) / 4 + 512) * i.bytes ≤ 2 ^ 48) (hb0 : 0 < i.bytes) (hB : B ≤ w.heap.size) :
    ∃ s' w', (Builtin.append_ #[ts, xt] rt #[.slice s.a s.len s.cap, .slice x.a x.len x.cap]).run P w = .ok (.slice s'.a s'.len s'.cap) w' ∧ SlOwn w' B s' e i.size (vs ++ us) ∧ s'.len = s.len + x.len ∧
      Upd (fun k => s.blk k) w w' ∧ ((Ext w w' ∧ ∀ k, s'.blk k → w.heap.size ≤ k) ∨ (s'.a = s.a ∧ ∃ b off c, s.a = some ⟨b, off, none⟩ ∧ w.heap[b]? = some (.cells c e (0, 0)) ∧ w'.heap[b]? = some (.cells (setRow c (off + s.len * i.size) us) e (0, 0)))) := by
  obtain ⟨s', w', hr, ho, hl, hu, hk, hex⟩ := append_run2 (rt := rt) P hts hxt hi hz hs hx h1 hzl hroom hb0 hB
  refine ⟨s', w', hr, ho, hl, hu, ?_⟩
  have hfx := run_firstCellsX P hx
  have hfs := run_firstCells P hs.in
  have hu1 := fun W => run_underlying hts W
  have hu2 := fun W => run_underlying hxt W
  have hsz : ∀ W, (sizeOf e).run P W = .ok i.size W := fun W => by simp [sizeOf, run_typeInfo W hi]
  have hlen := hs.len
  have hxlen := hx.len
  by_cases hneed : s.len + x.len ≤ s.cap
  · rcases hs.at_ with ⟨ha, hc⟩ | ⟨b, off, c, ha, hB', hb, hcap, hv⟩
    · have hl0 : x.len = 0 := by omega
      have hsl : s.len = 0 := by omega
      have hus : us = [] := by rw [hl0, Nat.zero_mul] at hxlen; exact List.length_eq_zero_iff.1 hxlen
      have hfx' : (Builtin.firstCells i.size 0 (.slice x.a 0 x.cap)).run P w = .ok #[] w := by rw [hl0, hus] at hfx; exact hfx
      simp [Builtin.append_, hu1, hu2, hsz, Builtin.lenOf, hl0, hsl, ha, hfx', hc] at hr
      obtain ⟨⟨h1, _⟩, rfl⟩ := hr
      refine .inl ⟨Ext.refl w, fun k hk => ?_⟩
      obtain ⟨q, hq, _⟩ := hk
      rw [← h1] at hq; cases hq
    · have hfit : s.len * i.size + us.length ≤ s.cap * i.size := by
        rw [hxlen, ← Nat.add_mul]; exact Nat.mul_le_mul_right _ hneed
      obtain ⟨w1, hr1, hu1', hb1, _⟩ := run_storeRow P us b (off + s.len * i.size) 0 c e w h1 hb (by omega)
      simp [Builtin.append_, hu1, hu2, hsz, Builtin.lenOf, hneed, hfx, ha, addr_add, hr1] at hr
      obtain ⟨⟨h1, _⟩, rfl⟩ := hr
      exact .inr ⟨h1.symm.trans ha.symm, b, off, c, ha, hb, hb1⟩
  · have hti : ∀ W, (typeInfo e).run P W = .ok i W := fun W => run_typeInfo W hi
    have hzv : ∀ W, (zeroValue e).run P W = .ok z W := fun W => by simp [zeroValue, run_typeInfo W hi, hz]
    have hle := Go.Vx.nextslicecap_le (need := s.len + x.len) (old := s.cap) (by omega)
    have hroom' : ¬ (Builtin.nextslicecap (s.len + x.len) s.cap * i.bytes > 2 ^ 48) := by
      have := Nat.mul_le_mul_right i.bytes hle
      omega
    have hfx' : (Builtin.firstCells i.size x.len (.slice x.a x.len x.cap)).run P w.drew = .ok us.toArray w.drew := run_firstCellsX P (hx.ext (Ext.drew w))
    have hfs' : (Builtin.firstCells i.size s.len (.slice s.a s.len s.cap)).run P w.drew = .ok vs.toArray w.drew := run_firstCells P (hs.in.ext (Ext.drew w))
    have hb0' : ¬ i.bytes = 0 := by omega
    simp [Builtin.append_, hu1, hu2, hsz, Builtin.lenOf, hneed, hti, hb0', hroom', run_askRoom, hfs', hfx', hzv, newRow, newObj, Sem.run, Question.forced] at hr
    obtain ⟨⟨h1, _⟩, rfl⟩ := hr
    refine .inl ⟨(Ext.drew w).trans (Ext.alloc w.drew _), fun k hk => ?_⟩
    obtain ⟨q, hq, rfl⟩ := hk
    rw [← h1] at hq; cases hq
    exact Nat.le_refl _
theorem app_by {B : Nat} {s x : Sl} {l m : Bs} {K : Sl → World → Prop} (hs : SlOwn w B s 5 1 (bv l)) (hx : SlX w x 1 (bv m)) (hroom : s.len + x.len + (s.len + x.len) / 4 + 512 ≤ 2 ^ 48) (hB : B ≤ w.heap.size)
    (h : ∀ s' w', SlOwn w' B s' 5 1 (bv (l ++ m)) → s'.len = s.len + x.len → Upd s.blk w w' → (∀ k, s'.blk k → s.blk k ∨ w.heap.size ≤ k) →
      (∀ y b, By w y b → (∀ k, y.blk k → s.blk k → top y ≤ top s) → By w' y b ∧ ∀ k, y.blk k → s'.blk k → top y ≤ top s') → K s' w') :
    rawT Tryz.prog (.one (.one .sl)) (Builtin.append_ #[22, 22] 22 #[.slice s.a s.len s.cap, .slice x.a x.len x.cap]) K w := by
  obtain ⟨i, z, hi, hsz, hby, hz, hzs⟩ := EBy.e_
  have hs' := hs
  rw [← hsz] at hs hx
  obtain ⟨s', w', hr, ho, hl, hu, hex⟩ := append_run3 (rt := 22) Tryz.prog EBy.ts_ EBy.ts_ hi hz hs hx (fun v hv => by
    obtain ⟨b, _, rfl⟩ := List.mem_map.1 hv; rfl) (by rw [hsz]; exact hzs) (by rw [hby]; omega) (by rw [hby]; decide) hB
  rw [hsz] at ho hex
  have eb : bv l ++ bv m = bv (l ++ m) := by simp [bv]
  rw [eb] at ho
  refine ⟨s', w', hr, h s' w' ho hl hu (fun k hk => ?_) fun y b hy hyt => ?_⟩
  · rcases hex with ⟨_, h2⟩ | ⟨h1, _⟩
    · exact .inr (h2 k hk)
    · left
      obtain ⟨q, hq, rfl⟩ := hk
      exact ⟨q, h1 ▸ hq, rfl⟩
  · rcases hex with ⟨h1, h2⟩ | ⟨h1, b0, off, c, ha, hb0, hb1⟩
    · exact ⟨hy.ext h1, fun k hk hk' => by have := hy.blk_lt hk; have := h2 k hk'; omega⟩
    · have hts : top s ≤ top s' := by unfold top; rw [h1, ha]; show off + s.len ≤ off + s'.len; omega
      have hsk : ∀ k, s'.blk k → s.blk k := fun k hk => by obtain ⟨q, hq, rfl⟩ := hk; exact ⟨q, h1 ▸ hq, rfl⟩
      refine ⟨⟨SlIn.len hy, hy.le, hy.at_.imp id fun ⟨b', off', c', fr', ha', hb', hcap, hv⟩ => ?_⟩, fun k hk hk' => Nat.le_trans (hyt k hk (hsk k hk')) hts⟩
      by_cases hbb : b' = b0
      · subst hbb
        rw [hb0] at hb'
        cases hb'
        have ht := hyt b' ⟨_, ha', rfl⟩ ⟨_, ha, rfl⟩
        unfold top at ht
        rw [ha', ha] at ht
        dsimp only at ht
        have hyl := hy.len
        refine ⟨b', off', _, _, ha', hb1, by rw [Go.Vx.size_setRow]; exact hcap, fun i u hu => ?_⟩
        have hil := (List.getElem?_eq_some_iff.1 hu).1
        rw [List.length_map] at hil
        rw [Go.Vx.get_setRow_lt _ _ _ _ (by omega)]
        exact hv i u hu
      · exact ⟨b', off', c', fr', ha', hu.get hb' (fun ⟨q, hq, hqb⟩ => by rw [ha] at hq; cases hq; exact hbb hqb.symm), hcap, hv⟩
theorem Its.by_ {e : Enc} : ∀ {l : List Pc} {M : Parts}, Its w e l M → ∀ x ∈ l, ∃ b, By w x.bytes b
  | [], _, _, x, hx => by cases hx
  | y :: l, z :: M, h, x, hx => by
    rcases List.mem_cons.1 hx with rfl | hx
    · exact ⟨_, h.1.by_⟩
    · exact Its.by_ h.2 x hx
theorem Its.ty {e : Enc} {l : List Pc} {M : Parts} (h : Its w e l M) (u : Upd S w w') (hS : NoTy w S 5) : Its w' e l M :=
  h.upd u fun x hx k hk hSk => by
    obtain ⟨b, hb⟩ := h.by_ x hx
    obtain ⟨c, fr, hc⟩ := hb.blk_cells hk
    exact hS k hSk c fr hc
theorem Its.to {e : Enc} : ∀ {l : List Pc} {M : Parts}, Its w e l M → (∀ x ∈ l, ∀ b, By w x.bytes b → By w' x.bytes b) → Its w' e l M
  | [], [], _, _ => trivial
  | x :: l, y :: M, h, hb => ⟨⟨hb x List.mem_cons_self _ h.1.by_, h.1.sm, h.1.tag, h.1.ne, h.1.lo, h.1.hi⟩, Its.to h.2 fun z hz => hb z (List.mem_cons_of_mem _ hz)⟩
def Old (w W : World) (a0 a : Sl) : Prop := ∀ y b, By w y b → (∀ k, y.blk k → a0.blk k → top y ≤ top a0) → By W y b ∧ ∀ k, y.blk k → a.blk k → top y ≤ top a
theorem Old.ty {W W' : World} {a0 a : Sl} (h : Old w W a0 a) (u : Upd S W W') (hS : NoTy W S 5) : Old w W' a0 a := fun y b hy ht => ⟨(h y b hy ht).1.ty u hS, (h y b hy ht).2⟩
theorem Old.refl (w : World) (a : Sl) : Old w w a a := fun y b hy ht => ⟨hy, ht⟩
theorem no_ext (W : World) (t : TypeId) : NoTy W (fun _ => False) t := fun _ h => h.elim
end
end Go.Proofs.YtabcpghhfeplaaaGreat
set_option linter.unusedSimpArgs false
set_option linter.unusedVariables false
set_option maxRecDepth 100000
namespace Go.Proofs.YtabcpghhfeplaaaGreat
open Go Go.Vx Cdc Trx
section
variable {w w' W W' : World} {S : Nat → Prop} {p : Nat} {e : Enc} {lim na : Nat} {O : Nat → Prop} {M : Parts}
theorem nn_eqT {a : Addr} {K : Addr → World → Prop} : nn (some a) K = K a := funext fun _ => propext nn_some_iff
abbrev txO (e : Enc) (lim : Nat) (tp : Option Addr) (a : Sl) : Obj := .cells #[.int .i64 e.num, .int .i64 (lim : Int), .pointer tp, .slice a.a a.len a.cap] 107 (0, 0)
abbrev frLs (p b1 b2 b6 b7 : Nat) (ps : Sl) (f n : Nat) : List (Nat × Obj) := [(b7, .cells #[.int .i64 (n : Int)] 3 (0, 0)), (b6, .cells #[.int .i64 (f : Int)] 3 (0, 0)), (b2, .cells #[.slice ps.a ps.len ps.cap] 108 (0, 0)), (b1, .cells #[.pointer (some (at0 p))] 25 (0, 0))]
structure FrI (w W : World) (p : Nat) (e : Enc) (lim : Nat) (tp : Option Addr) (a0 : Sl) (b1 b2 b6 b7 : Nat) (a ps : Sl) (ab cb : Bs) (pl : List Pc) (M' : Parts) (n : Nat) : Prop where
  st : St (fun k => k = p ∨ a0.blk k) w W (frLs p b1 b2 b6 b7 ps (ab.length - cb.length) n)
  tx : W.heap[p]? = some (txO e lim tp a)
  own : SlOwn W 0 a 5 1 (bv ab)
  suf : ∃ x, ab = x ++ cb
  row : SlOwn W w.heap.size ps 112 7 (flat c112 (pl.map pcT))
  its : Its W e pl M'
  tops : ∀ x ∈ pl, ∀ k, x.bytes.blk k → a.blk k → top x.bytes ≤ top a
  pblk : ∀ x ∈ pl, ∀ k, x.bytes.blk k → a0.blk k ∨ w.heap.size ≤ k
  ablk : ∀ k, a.blk k → a0.blk k ∨ w.heap.size ≤ k
  old : Old w W a0 a
  cnt : pl.length + cb.length ≤ ab.length
variable {tp : Option Addr} {a0 a ps : Sl} {b1 b2 b6 b7 n : Nat} {ab cb : Bs} {pl : List Pc} {M' : Parts}
theorem FrI.ext (h : FrI w W p e lim tp a0 b1 b2 b6 b7 a ps ab cb pl M' n) (x : Ext W W') : FrI w W' p e lim tp a0 b1 b2 b6 b7 a ps ab cb pl M' n :=
  ⟨h.st.ext x, x.ext_get h.tx, h.own.ext x, h.suf, h.row.ext x, h.its.ext x, h.tops, h.pblk, h.ablk, h.old.ty x (no_ext _ _), h.cnt⟩
set_option maxHeartbeats 1000000 in
theorem shut_x {K : Unit → World → Prop} (h : FrI w W p e lim tp a0 b1 b2 b6 b7 a ps ab cb pl M' n) (hab : ab.length < 2 ^ 40)
    (hK : ∀ ps' pl' M'' n' W', FrI w W' p e lim tp a0 b1 b2 b6 b7 a ps' ab [] pl' M'' n' → aOf e M'' = aOf e M' ++ ats e cb → n' ≤ n → W.heap.size ≤ W'.heap.size → K () W') :
    callX Tryz.prog (do let d ← Deferred.ofValue (.func (.func 141) #[] #[.pointer (some (at0 b1)), .pointer (some (at0 b6)), .pointer (some (at0 b2)), .pointer (some (at0 b7))]) #[]; invoke d.target d.args : Sem Next) (.tup []) K W := by
  refine func_x (caps := #[.pointer (some (at0 b1)), .pointer (some (at0 b6)), .pointer (some (at0 b2)), .pointer (some (at0 b7))]) (by kernel_rfl) ?_
  refine F141_calls ?_
  unfold F141
  have hlen : ab.length = a.len := by have := h.own.len1; rwa [List.length_map] at this
  have hcl : cb.length ≤ ab.length := by obtain ⟨x, hx⟩ := h.suf; rw [hx]; simp
  have S0 := h.st
  refine S0.ld 3 rfl (x := some (at0 p)) rfl ?_
  simp only [nn_eqT, addr_add]
  refine ld_r h.tx (x := a) rfl (S0.ld 1 rfl (x := ((ab.length - cb.length : Nat) : Int)) rfl (sif_r (fun hc => ?_) (fun hc => ?_)))
  · simp only [decide_eq_true_eq, gt_iff_lt] at hc
    have hcb : 0 < cb.length := by omega
    refine S0.drew fun W1 S1 e1 _ => ?_
    have h1 := h.ext e1
    refine S1.ld 2 rfl (x := ps) rfl (S1.ld 3 rfl (x := some (at0 p)) rfl ?_)
    simp only [nn_eqT, addr_add]
    refine ld_r h1.tx (x := e.num) rfl (S1.ld 3 rfl (x := some (at0 p)) rfl ?_)
    simp only [nn_eqT, addr_add]
    refine ld_r h1.tx (x := a) rfl (S1.ld 1 rfl (x := ((ab.length - cb.length : Nat) : Int)) rfl ?_)
    have hcap := h.own.in.le
    refine chk_r (by omega) ?_
    have hB1 : By W1 a ab := h1.own.in
    have c1 := hB1.cut (l := ((ab.length - cb.length : Nat) : Int)) (h := (a.len : Int)) (m := (a.len : Int)) (by omega) (by omega) (by omega) (by omega) (by omega)
    have d1 : (ab.drop ((ab.length - cb.length : Nat) : Int).toNat).take ((a.len : Int).toNat - ((ab.length - cb.length : Nat) : Int).toNat) = cb := by
      obtain ⟨x, hx⟩ := h.suf
      rw [Int.toNat_natCast, Int.toNat_natCast, List.take_of_length_le (by rw [List.length_drop]; omega)]
      have : ab.length - cb.length = x.length := by rw [hx]; simp
      rw [this, hx, List.drop_left]
    rw [d1] at c1
    have ct := cut_top hB1 (l := ((ab.length - cb.length : Nat) : Int)) (h := (a.len : Int)) (m := (a.len : Int)) (by omega) (by omega) (by omega)
    have cbk := fun k => cut_blk (s := a) (l := ((ab.length - cb.length : Nat) : Int)) (h := (a.len : Int)) (m := (a.len : Int)) (k := k)
    generalize Sl.cut a.a ((ab.length - cb.length : Nat) : Int) (a.len : Int) (a.len : Int) 1 = y at *
    refine newpart_call c1 (by omega) fun W2 e2 => ?_
    have h2 := h1.ext e2
    have S2 := h2.st
    refine S2.keep 2 rfl (v := .slice ps.a ps.len ps.cap) rfl ?_
    refine newO_r fun b15 W3 e3 n3 hb15 hz3 => ?_
    have h3 := h2.ext e3
    have S3 := h3.st
    refine S3.keep 2 rfl (v := .slice ps.a ps.len ps.cap) rfl ?_
    have hbox : SlX W3 ⟨some (at0 b15), 1, 1⟩ 7 (flat c112 [pcT (mkPc e y (-1) cb)]) := (SlIn.of_box n3 (n := 1) (sz := 7) rfl).x
    have hrl := SlOwn.lenR (cs := c112) h3.row (by decide)
    rw [List.length_map] at hrl
    have hcnt := h.cnt
    refine append_rx eParts eParts.ts_ (x := ⟨some (at0 b15), 1, 1⟩) h3.row hbox (Pc_one _) (by
      show (ps.len + 1 + (ps.len + 1) / 4 + 512) * 64 ≤ 2 ^ 48
      omega) (by have := S3.upd.size; omega) fun ps' W4 o4 l4 u4 k4 => ?_
    have nb4 : NoTy W3 ps.blk 5 := NoTy.blk h3.row.in (by decide)
    have nt4 : NoTy W3 ps.blk 107 := NoTy.blk h3.row.in (by decide)
    have e4 : flat c112 (pl.map pcT) ++ flat c112 [pcT (mkPc e y (-1) cb)] = flat c112 ((pl ++ [mkPc e y (-1) cb]).map pcT) := by rw [List.map_append, flat_append]; rfl
    rw [e4] at o4
    have tx4 : W4.heap[p]? = some (txO e lim tp a) := u4.get h3.tx fun hk => nt4 _ hk _ _ h3.tx
    have own4 := h3.own.ty u4 nb4
    have st4 : St (fun k => k = p ∨ a0.blk k) w W4 (frLs p b1 b2 b6 b7 ps (ab.length - cb.length) n) := S3.fresh u4 (fun k hk => .inr (h3.row.blk_ge hk)) (fun x hx hk => by
      obtain ⟨c, fr, hc'⟩ := h3.row.in.blk_cells hk
      have hl := (S3.loc x hx).1
      rw [hc'] at hl
      simp only [frLs, List.mem_cons, List.not_mem_nil, or_false] at hx
      rcases hx with rfl | rfl | rfl | rfl <;> cases hl)
    have its4 : Its W4 e (pl ++ [mkPc e y (-1) cb]) (M' ++ [(-1, cb)]) := by
      refine Its.app (h3.its.ty u4 nb4) ⟨⟨?_, rfl, rfl, ?_, Int.le_refl _, ?_⟩, trivial⟩
      · exact ((c1.ext e2).ext e3).ty u4 nb4
      · intro hn
        replace hn : cb = [] := hn
        rw [hn] at hcb; simp at hcb
      · show (-1 : Int) + (cb.length : Int) ≤ 2 ^ 40; omega
    have old4 := h3.old.ty u4 nb4
    refine st4.stC 2 rfl (by show 0 < 1; decide) fun W5 S5 u5 => S5.stC 1 rfl (by show 0 < 1; decide) fun W6 S6 u6 => S6.stC 0 rfl (by show 0 < 1; decide) fun W7 S7 u7 => ?_
    have g2 : W4.heap[b2]? = some (.cells #[.slice ps.a ps.len ps.cap] 108 (0, 0)) := st4.at_ 2 rfl
    have g6 : W5.heap[b6]? = some (.cells #[.int .i64 ((ab.length - cb.length : Nat) : Int)] 3 (0, 0)) := S5.at_ 1 rfl
    have g7 : W6.heap[b7]? = some (.cells #[.int .i64 (n : Int)] 3 (0, 0)) := S6.at_ 0 rfl
    have tx5 : W5.heap[p]? = some (txO e lim tp a) := u5.get tx4 (fun hk => NoTy.box g2 (by decide) _ hk _ _ tx4)
    have tx6 : W6.heap[p]? = some (txO e lim tp a) := u6.get tx5 (fun hk => NoTy.box g6 (by decide) _ hk _ _ tx5)
    have tx7 : W7.heap[p]? = some (txO e lim tp a) := u7.get tx6 (fun hk => NoTy.box g7 (by decide) _ hk _ _ tx6)
    have hts : ∀ x ∈ pl ++ [mkPc e y (-1) cb], ∀ k, x.bytes.blk k → a.blk k → top x.bytes ≤ top a := by
      intro x hx
      rcases List.mem_append.1 hx with hx | hx
      · exact h.tops x hx
      · rw [List.mem_singleton.1 hx]; intro k _ _; exact ct
    have hpb : ∀ x ∈ pl ++ [mkPc e y (-1) cb], ∀ k, x.bytes.blk k → a0.blk k ∨ w.heap.size ≤ k := by
      intro x hx
      rcases List.mem_append.1 hx with hx | hx
      · exact h.pblk x hx
      · rw [List.mem_singleton.1 hx]; intro k hk; exact h.ablk k (cbk k hk)
    refine hK ps' (pl ++ [mkPc e y (-1) cb]) (M' ++ [(-1, cb)]) 0 W7 ⟨?_, tx7, ?_, ⟨ab, by simp⟩, ?_, ?_, hts, hpb, h.ablk, ?_, ?_⟩ ?_ (Nat.zero_le _) ?_
    · have e0 : ((a.len : Nat) : Int) = ((ab.length - ([] : Bs).length : Nat) : Int) := by simp; omega
      rw [e0] at S7
      exact S7
    · exact ((own4.box g2 (by decide) u5).box g6 (by decide) u6).box g7 (by decide) u7
    · exact ((o4.box g2 (by decide) u5).box g6 (by decide) u6).box g7 (by decide) u7
    · exact ((its4.ty u5 (NoTy.box g2 (by decide))).ty u6 (NoTy.box g6 (by decide))).ty u7 (NoTy.box g7 (by decide))
    · exact ((old4.ty u5 (NoTy.box g2 (by decide))).ty u6 (NoTy.box g6 (by decide))).ty u7 (NoTy.box g7 (by decide))
    · simp; omega
    · rw [aOf_app]; simp [aOf]
    · have := e1.size; have := e2.size; have := e3.size; have := u4.size; have := u5.size; have := u6.size; have := u7.size; omega
  · simp only [decide_eq_false_iff_not, gt_iff_lt] at hc
    have hcb : cb = [] := List.length_eq_zero_iff.1 (by omega)
    subst hcb
    exact hK ps pl M' n W h (by rw [ats_nil, List.append_nil]) (Nat.le_refl _) (Nat.le_refl _)
theorem Old.trans {w W W' : World} {a0 a a' : Sl} (h : Old w W a0 a) (h' : Old W W' a a') : Old w W' a0 a' := fun y b hy ht => h' y b (h y b hy ht).1 (h y b hy ht).2
set_option maxHeartbeats 1000000 in
theorem fresh_call {s : Sl} {t : TypeId} {put : List Int} (hs : SlIn w s t 1 (iv put)) (hsep : ∀ k, s.blk k → k ≠ p ∧ ¬ a0.blk k) (hfit : Fit e put) (tx : w.heap[p]? = some (txO e lim tp a0)) (own : SlOwn w 0 a0 5 1 (bv ab)) (hab : ab.length + (bts e put).length < 2 ^ 40) (hput : put.length < 2 ^ 40) {K : Sl → World → Prop}
    (hK : ∀ ps a pl M' W, W.heap[p]? = some (txO e lim tp a) → SlOwn W 0 a 5 1 (bv (ab ++ bts e put)) → SlOwn W w.heap.size ps 112 7 (flat c112 (pl.map pcT)) → Its W e pl M' → aOf e M' = prs e put → (∀ x ∈ pl, ∀ k, x.bytes.blk k → a.blk k → top x.bytes ≤ top a) →
      (∀ x ∈ pl, ∀ k, x.bytes.blk k → a0.blk k ∨ w.heap.size ≤ k) → (∀ k, a.blk k → a0.blk k ∨ w.heap.size ≤ k) → Old w W a0 a → Upd (fun k => k = p ∨ a0.blk k) w W → pl.length ≤ ab.length + (bts e put).length → K ps W) :
    callT Tryz.prog 113 #[.pointer (some (at0 p)), .slice s.a s.len s.cap] (.one (.one .sl)) K w := by
  refine F113_calls ?_
  unfold F113
  have hlen : put.length = s.len := by have := hs.len1; rwa [List.length_map] at this
  have hal : ab.length = a0.len := by have := own.len1; rwa [List.length_map] at this
  have hpw := lt_of_heap tx
  refine (St.startM (fun k => k = p ∨ a0.blk k) w (fun k hk => hk.elim (fun h => h ▸ hpw) fun h => own.in.blk_lt h)).newO fun b1 w1 S1 e1 => S1.newO fun b2 w2 S2 e2 => S2.ld 1 rfl (x := some (at0 p)) rfl ?_
  simp only [nn_eqT, addr_add]
  have x2 := e1.trans e2
  refine ld_r (x2.ext_get tx) (x := a0) rfl (S2.newO fun b6 w3 S3 e3 => S3.stC 0 rfl (by show 0 < 1; decide) fun w4 S4 u4 => S4.newO fun b7 w5 S5 e5 => S5.stC 0 rfl (by show 0 < 1; decide) fun w6 S6 u6 => ?_)
  have g6 : w3.heap[b6]? = some (.cells #[.int .i64 0] 3 (0, 0)) := S3.at_ 0 rfl
  have g7 : w5.heap[b7]? = some (.cells #[.int .i64 0] 3 (0, 0)) := S5.at_ 0 rfl
  have x3 := x2.trans e3
  have F0 : FrI w w6 p e lim tp a0 b1 b2 b6 b7 a0 ⟨none, 0, 0⟩ ab [] [] [] 0 := by
    refine ⟨?_, ?_, ?_, ⟨ab, by simp⟩, SlOwn.nil _ _ _ _, trivial, (fun x hx => by cases hx), (fun x hx => by cases hx), fun k hk => .inl hk, ?_, by simp⟩
    · have e0 : ((a0.len : Nat) : Int) = ((ab.length - ([] : Bs).length : Nat) : Int) := by simp; omega
      rw [e0] at S6
      exact S6
    · have t3 := x3.ext_get tx
      have t4 : w4.heap[p]? = some (txO e lim tp a0) := u4.get t3 (fun hk => NoTy.box g6 (by decide) _ hk _ _ t3)
      have t5 := e5.ext_get t4
      exact u6.get t5 (fun hk => NoTy.box g7 (by decide) _ hk _ _ t5)
    · exact (((own.ext x3).box g6 (by decide) u4).ext e5).box g7 (by decide) u6
    · exact ((((Old.refl w a0).ty x3 (no_ext _ _)).ty u4 (NoTy.box g6 (by decide))).ty e5 (no_ext _ _)).ty u6 (NoTy.box g7 (by decide))
  clear S1 S2 S3 S4 S5 S6
  have tkl : ∀ i j : Nat, j ≤ i → (bts e ((put.take i).drop j)).length ≤ (bts e put).length := by
    intro i j _
    have : put = put.take i ++ put.drop i := (List.take_append_drop i put).symm
    have h2 : put.take i = (put.take i).take j ++ (put.take i).drop j := (List.take_append_drop j _).symm
    have h3 : (bts e put).length = (bts e (put.take i)).length + (bts e (put.drop i)).length := by conv => lhs; rw [this]; rw [bts_app, List.length_append]
    have h4 : (bts e (put.take i)).length = (bts e ((put.take i).take j)).length + (bts e ((put.take i).drop j)).length := by conv => lhs; rw [h2]; rw [bts_app, List.length_append]
    omega
  have abl : ∀ i, (ab ++ bts e (put.take i)).length < 2 ^ 40 := fun i => by have := tkl i 0 (Nat.zero_le _); rw [List.length_append]; simp only [List.drop_zero] at this; omega
  have fit2 : ∀ i j, Fit e ((put.take i).drop j) := fun i j x hx => hfit x (List.mem_of_mem_take (List.mem_of_mem_drop hx))
  have glue : ∀ i j, prs e ((put.take i).take j) ++ ats e (bts e ((put.take i).drop j)) = prs e (put.take i) := fun i j => by
    rw [ats_bts (fit2 i j)]; unfold prs; rw [← List.map_append, List.take_append_drop]
  have shut : ∀ {a ps i j pl M' n} {W : World} {K : Unit → World → Prop}, j ≤ i → FrI w W p e lim tp a0 b1 b2 b6 b7 a ps (ab ++ bts e (put.take i)) (bts e ((put.take i).drop j)) pl M' n → aOf e M' = prs e ((put.take i).take j) → (∀ ps' pl' M'' n' W', FrI w W' p e lim tp a0 b1 b2 b6 b7 a ps' (ab ++ bts e (put.take i)) [] pl' M'' n' → aOf e M'' = prs e (put.take i) → n' ≤ n → K () W') →
      callX Tryz.prog (do let d ← Deferred.ofValue (.func (.func 141) #[] #[.pointer (some (at0 b1)), .pointer (some (at0 b6)), .pointer (some (at0 b2)), .pointer (some (at0 b7))]) #[]; invoke d.target d.args : Sem Next) (.tup []) K W := by
    intro a ps i j pl M' n W K hj F hM hK
    exact shut_x F (abl i) fun ps' pl' M'' n' W' F' hM' hn _ => hK ps' pl' M'' n' W' F' (by rw [hM', hM, glue]) hn
  refine join_r (fun _ W => ∃ a ps pl M' n j, j ≤ put.length ∧ FrI w W p e lim tp a0 b1 b2 b6 b7 a ps (ab ++ bts e (put.take put.length)) (bts e ((put.take put.length).drop j)) pl M' n ∧ aOf e M' = prs e ((put.take put.length).take j)) ?_ ?_
  · refine sloop_r (fun x W => ∃ a ps pl M' n i j, x = (((i : Nat) : Int), ()) ∧ i ≤ put.length ∧ j ≤ i ∧ n ≤ i ∧ FrI w W p e lim tp a0 b1 b2 b6 b7 a ps (ab ++ bts e (put.take i)) (bts e ((put.take i).drop j)) pl M' n ∧ aOf e M' = prs e ((put.take i).take j)) (fun x _ => ((put.length : Int) - x.1).toNat) ⟨a0, ⟨none, 0, 0⟩, [], [], 0, 0, 0, rfl, Nat.zero_le _, Nat.le_refl _, Nat.le_refl _, by simpa [bts] using F0, by simp [aOf, prs]⟩ ?_
    rintro _ W ⟨a, ps, pl, M', n, i, j, rfl, hi, hj, hn, F, hM⟩
    refine sif_r (fun hc => ?_) (fun hc => ?_)
    · simp only [decide_eq_true_eq] at hc
      obtain ⟨v, hv⟩ : ∃ v, put[i]? = some v := ⟨_, List.getElem?_eq_getElem (by omega)⟩
      have hf := hfit v (List.mem_of_getElem? hv)
      have ew : IntKind.wrap .i64 ((i : Int) + 1) = ((i + 1 : Nat) : Int) := by rw [wrap64 (by omega) (by omega)]; omega
      dsimp only
      rw [ew]
      refine join_r (fun _ W => ∃ a ps pl M' n j, j ≤ i ∧ n ≤ i + 1 ∧ FrI w W p e lim tp a0 b1 b2 b6 b7 a ps (ab ++ bts e (put.take (i + 1))) (bts e ((put.take (i + 1)).drop j)) pl M' n ∧ aOf e M' = prs e ((put.take (i + 1)).take j)) ?_ ?_
      · have hsW : SlIn W s t 1 (iv put) := hs.upd F.st.upd fun k hk hSk => by
          have := hsep k hk
          rcases hSk with h | h
          · exact this.1 h
          · exact this.2 h
        refine ix_ld (c := .int .i64) (xs := put) hsW (by omega) (x := v) (by rw [Int.toNat_natCast]; exact hv) fun q => ?_
        refine join_r (fun x W' => x = (true, ()) ∧ W = W') ?_ ?_
        · refine sif_r (fun h1 => sif_r (fun h2 => ⟨rfl, rfl⟩) (fun h2 => ⟨tupb ?_, rfl⟩)) (fun h1 => ?_)
          · simp only [decide_eq_true_eq, decide_eq_false_iff_not, gt_iff_lt, ge_iff_le, iff_true] at *
            rcases hf.1 with h | h <;> omega
          · simp only [decide_eq_false_iff_not, ge_iff_le] at h1
            rcases hf.1 with h | h <;> omega
        rintro _ _ ⟨rfl, rfl⟩
        refine join_r (fun _ W => ∃ ps pl M' n j, j ≤ i ∧ n ≤ i ∧ FrI w W p e lim tp a0 b1 b2 b6 b7 a ps (ab ++ bts e (put.take i)) (bts e ((put.take i).drop j)) pl M' n ∧ aOf e M' = prs e ((put.take i).take j)) ?_ ?_
        · refine join_r (fun x W' => x = (decide (n = 128), ()) ∧ W = W') ?_ ?_
          · refine sif_false (F.st.ld 0 rfl (x := (n : Int)) rfl ⟨tupb ?_, rfl⟩)
            simp only [beq_iff_eq, decide_eq_true_eq]; omega
          rintro _ _ ⟨rfl, rfl⟩
          refine sif_r (fun _ => shut hj F hM fun ps' pl' M'' n' W' F' hM' hn' => ⟨ps', pl', M'', n', i, Nat.le_refl _, by omega, ?_, ?_⟩) (fun _ => ⟨ps, pl, M', n, j, hj, hn, F, hM⟩)
          · rw [List.drop_eq_nil_of_le (by rw [List.length_take]; omega)]; exact F'
          · rw [hM', List.take_take, Nat.min_self]
        clear F hM hn hj ps pl M' n j
        rintro _ W1 ⟨ps, pl, M', n, j, hj, hn, F, hM⟩
        refine F.st.ld 3 rfl (x := some (at0 p)) rfl ?_
        simp only [nn_eqT, addr_add]
        refine ld_r F.tx (x := e.num) rfl (newO_r fun b27 W2 e2' n2 hb27 _ => ?_)
        have F2 := F.ext e2'
        have hbox : SlIn W2 ⟨some (at0 b27), 1, 1⟩ 3 1 [.int .i64 v] := SlIn.of_box n2 (n := 1) (sz := 1) rfl
        refine enc1_call (s := ⟨some (at0 b27), 1, 1⟩) (t := 3) (e := e) (a := v) hf.2 hbox fun s28 W3 o28 e3' => ?_
        have F3 := F2.ext e3'
        have S3 := F3.st
        show drew _ W3
        refine S3.drew fun W4 S4 e4' _ => ?_
        have F4 := F3.ext e4'
        have o28 := o28.ext e4'
        refine F4.st.ld 3 rfl (x := some (at0 p)) rfl (F4.st.ld 3 rfl (x := some (at0 p)) rfl ?_)
        simp only [nn_eqT, addr_add]
        have tkv : put.take (i + 1) = put.take i ++ [v] := by rw [List.take_add_one, hv]; rfl
        have ptl : (bts e (put.take i)).length + (pt e v).length ≤ (bts e put).length := by
          have := tkl (i + 1) 0 (Nat.zero_le _)
          rw [List.drop_zero, tkv, bts_app, List.length_append] at this
          simpa [bts] using this
        have s28l : (pt e v).length = s28.len := by have := o28.len1; rwa [List.length_map] at this
        have al4 : (ab ++ bts e (put.take i)).length = a.len := by have := F4.own.len1; rwa [List.length_map] at this
        have al4' := al4
        rw [List.length_append] at al4'
        refine ld_r F4.tx (x := a) rfl (app_by F4.own o28.in.x (by omega) (Nat.zero_le _) fun a' W5 o5 l5 u5 k5 old5 => ?_)
        have nb5 : ∀ t, t ≠ 5 → NoTy W4 a.blk t := fun t ht => NoTy.blk F4.own.in (fun h => ht h.symm)
        have tx5 : W5.heap[p]? = some (txO e lim tp a) := u5.get F4.tx fun hk => nb5 107 (by decide) _ hk _ _ F4.tx
        have st5 : St (fun k => k = p ∨ a0.blk k) w W5 (frLs p b1 b2 b6 b7 ps ((ab ++ bts e (put.take i)).length - (bts e ((put.take i).drop j)).length) n) := F4.st.fresh u5 (fun k hk => (F4.ablk k hk).imp .inr id) (fun x hx hk => by
          obtain ⟨c, fr, hc'⟩ := F4.own.in.blk_cells hk
          have hl := (F4.st.loc x hx).1
          rw [hc'] at hl
          simp only [frLs, List.mem_cons, List.not_mem_nil, or_false] at hx
          rcases hx with rfl | rfl | rfl | rfl <;> cases hl)
        have row5 := F4.row.ty u5 (nb5 112 (by decide))
        have its5 : Its W5 e pl M' := F4.its.to fun x hx b hb => (old5 x.bytes b hb (F4.tops x hx)).1
        have tops5 : ∀ x ∈ pl, ∀ k, x.bytes.blk k → a'.blk k → top x.bytes ≤ top a' := fun x hx => by
          obtain ⟨b, hb⟩ := F4.its.by_ x hx
          exact (old5 x.bytes b hb (F4.tops x hx)).2
        have oldT : Old w W5 a0 a' := F4.old.trans old5
        refine st5.keep 3 rfl (v := .pointer (some (at0 p))) rfl ?_
        refine stC_r tx5 (by show 3 < 4; decide) fun W6 u6 n6 _ => ?_
        have n6 : W6.heap[p]? = some (txO e lim tp a') := n6
        have nt6 : ∀ t, t ≠ 107 → NoTy W5 (fun k => k = p) t := fun t ht => NoTy.box tx5 (fun h => ht h.symm)
        have st6 : St (fun k => k = p ∨ a0.blk k) w W6 (frLs p b1 b2 b6 b7 ps ((ab ++ bts e (put.take i)).length - (bts e ((put.take i).drop j)).length) n) := st5.step u6 fun k hk => .inl hk
        refine st6.ld 0 rfl (x := (n : Int)) rfl (st6.stC 0 rfl (by show 0 < 1; decide) fun W7 S7 u7 => ?_)
        have g7' : W6.heap[b7]? = some (.cells #[.int .i64 (n : Int)] 3 (0, 0)) := st6.at_ 0 rfl
        have ewn : IntKind.wrap .i64 ((n : Int) + 1) = ((n + 1 : Nat) : Int) := by rw [wrap64 (by omega) (by omega)]; omega
        rw [ewn] at S7
        have cbe : bts e ((put.take (i + 1)).drop j) = bts e ((put.take i).drop j) ++ pt e v := by
          rw [tkv, List.drop_append_of_le_length (by rw [List.length_take]; omega), bts_app]; simp [bts]
        have abe : ab ++ bts e (put.take (i + 1)) = ab ++ bts e (put.take i) ++ pt e v := by rw [tkv, bts_app, List.append_assoc]; simp [bts]
        have F7 : FrI w W7 p e lim tp a0 b1 b2 b6 b7 a' ps (ab ++ bts e (put.take (i + 1))) (bts e ((put.take (i + 1)).drop j)) pl M' (n + 1) := by
          rw [cbe, abe]
          refine ⟨?_, ?_, ?_, ?_, ?_, ?_, tops5, F4.pblk, ?_, ?_, ?_⟩
          · rw [@List.length_append _ (ab ++ bts e (put.take i)), @List.length_append _ (bts e ((put.take i).drop j)), Nat.add_sub_add_right]
            exact S7
          · exact u7.get n6 (fun hk => NoTy.box g7' (by decide) _ hk _ _ n6)
          · exact (o5.ty u6 (nt6 _ (by decide))).box g7' (by decide) u7
          · obtain ⟨x, hx⟩ := F4.suf
            exact ⟨x, by rw [hx, List.append_assoc]⟩
          · exact (row5.ty u6 (nt6 _ (by decide))).box g7' (by decide) u7
          · exact (its5.ty u6 (nt6 _ (by decide))).ty u7 (NoTy.box g7' (by decide))
          · intro k hk
            rcases k5 k hk with h | h
            · exact F4.ablk k h
            · have := F4.st.upd.size; exact .inr (by omega)
          · exact (oldT.ty u6 (nt6 _ (by decide))).ty u7 (NoTy.box g7' (by decide))
          · have := F4.cnt
            rw [@List.length_append _ (ab ++ bts e (put.take i)), @List.length_append _ (bts e ((put.take i).drop j))]
            omega
        refine sif_false ⟨a', ps, pl, M', n + 1, j, hj, by omega, F7, ?_⟩
        rw [hM, tkv, List.take_append_of_le_length (by rw [List.length_take]; omega)]
      · rintro _ W' ⟨a, ps, pl, M', n, j, hj, hn, F, hM⟩
        exact ⟨⟨a, ps, pl, M', n, i + 1, j, rfl, by omega, by omega, hn, F, hM⟩, by omega⟩
    · simp only [decide_eq_false_iff_not] at hc
      have : i = put.length := by omega
      subst this
      exact ⟨a, ps, pl, M', n, j, hj, F, hM⟩
  · rintro _ W ⟨a, ps, pl, M', n, j, hj, F, hM⟩
    refine shut hj F hM fun ps' pl' M'' n' W' F' hM' _ => ?_
    have hcnt := F'.cnt
    rw [List.take_length] at F' hM' hcnt
    refine F'.st.ld 2 rfl (x := ps') rfl (hK ps' a pl' M'' W' F'.tx F'.own F'.row F'.its hM' F'.tops F'.pblk F'.ablk F'.old F'.st.upd ?_)
    rw [List.length_append] at hcnt
    simpa using hcnt
end
end Go.Proofs.YtabcpghhfeplaaaGreat
set_option linter.unusedSimpArgs false
set_option linter.unusedVariables false
set_option maxRecDepth 100000
namespace Go.Proofs.YtabcpghhfeplaaaGreat
open Go Go.Vx Cdc Trx
section
variable {w w' W W' : World} {S : Nat → Prop} {p : Nat} {e : Enc} {lim na : Nat} {O : Nat → Prop} {M : Parts} {tp : Option Addr} {a0 a : Sl}
def hdA (e : Enc) (M : Parts) (i n : Nat) : As := match M[i]? with | some x => (ats e x.2).take n | none => []
def tlA (e : Enc) (M : Parts) (i n : Nat) : As := match M[i]? with | some x => (ats e x.2).drop n | none => []
theorem hdA_some {e : Enc} {M : Parts} {i n : Nat} {x : Int × Bs} (h : M[i]? = some x) : hdA e M i n = (ats e x.2).take n := by unfold hdA; rw [h]
theorem tlA_some {e : Enc} {M : Parts} {i n : Nat} {x : Int × Bs} (h : M[i]? = some x) : tlA e M i n = (ats e x.2).drop n := by unfold tlA; rw [h]
theorem hdA_none {e : Enc} {M : Parts} {i n : Nat} (h : M[i]? = none) : hdA e M i n = [] := by unfold hdA; rw [h]
theorem tlA_none {e : Enc} {M : Parts} {i n : Nat} (h : M[i]? = none) : tlA e M i n = [] := by unfold tlA; rw [h]
theorem hd_spot {e : Enc} {M : Parts} {at_ i n : Nat} (h : Spot e M at_ i n) : (aOf e M).take at_ = aOf e (M.take i) ++ hdA e M i n := by rw [take_spot h]; unfold hdA; cases M[i]? <;> rfl
theorem drop_spot {e : Enc} {M : Parts} {at_ i n : Nat} (h : Spot e M at_ i n) : (aOf e M).drop at_ = tlA e M i n ++ aOf e (M.drop (i + 1)) := by
  rcases h with ⟨rfl, rfl, rfl⟩ | ⟨x, hx, h1, h2, rfl⟩
  · cases M with
    | nil => simp [aOf, tlA]
    | cons x M => simp [aOf, tlA]
  · rw [tlA_some hx]
    have hil := (List.getElem?_eq_some_iff.1 hx).1
    have hd : M = M.take i ++ x :: M.drop (i + 1) := by
      have := List.drop_eq_getElem_cons hil
      have hx' : M[i] = x := by rw [List.getElem?_eq_getElem hil] at hx; exact Option.some.inj hx
      rw [hx'] at this
      rw [← this, List.take_append_drop]
    have : aOf e M = aOf e (M.take i) ++ (ats e x.2 ++ aOf e (M.drop (i + 1))) := by
      conv => lhs; rw [hd]
      rw [aOf_app, aOf_cons]
    rw [this, List.drop_length_add_append, List.drop_append_of_le_length h2]
theorem spot_le {e : Enc} {M : Parts} {f t i n j m : Nat} (h1 : Spot e M f i n) (h2 : Spot e M t j m) (hft : f ≤ t) : i ≤ j := by
  have mono : ∀ a b : Nat, a ≤ b → (aOf e (M.take a)).length ≤ (aOf e (M.take b)).length := by
    intro a b hab
    have : M.take b = M.take a ++ (M.take b).drop a := by
      conv => lhs; rw [← List.take_append_drop a (M.take b)]
      rw [List.take_take, Nat.min_eq_left hab]
    rw [this, aOf_app, List.length_append]; omega
  rcases h1 with ⟨_, rfl, _⟩ | ⟨x, hx, g1, g2, g3⟩
  · exact Nat.zero_le _
  rcases Nat.lt_or_ge j i with hlt | hge
  · exfalso
    rcases h2 with ⟨h, _, _⟩ | ⟨y, hy, k1, k2, k3⟩
    · omega
    · have hjl := (List.getElem?_eq_some_iff.1 hy).1
      have e1 : (aOf e (M.take (j + 1))).length = (aOf e (M.take j)).length + (ats e y.2).length := by
        have hy' : M[j] = y := by rw [List.getElem?_eq_getElem hjl] at hy; exact Option.some.inj hy
        rw [List.take_add_one, hy, Option.toList_some, aOf_app, List.length_append]
        simp [aOf]
      have := mono (j + 1) i (by omega)
      omega
  · exact hge
theorem szs_ge_take {l : As} (h : Posd l) {n : Nat} (hn : n ≤ l.length) : n ≤ szs (l.take n) := by
  have := szs_ge (h.take n)
  rw [List.length_take] at this; omega
theorem head_in {x : Pc} {y : Int × Bs} {n : Nat} (hp : PcIn w e x y) (h1 : 1 ≤ n) (hn : n ≤ (ats e y.2).length) : PcIn w e (headPc e x y.2 n) (y.1, y.2.take (cutAt e y.2 n)) := by
  have hcl := cutAt_le e y.2 n
  have hlen := hp.by_.len
  have hcap := SlIn.le hp.by_
  have c1 := hp.by_.cut (l := 0) (h := (cutAt e y.2 n : Int)) (m := (cutAt e y.2 n : Int)) (by omega) (by omega) (by omega) (by omega) (by omega)
  have d1 : (y.2.drop (0 : Int).toNat).take ((cutAt e y.2 n : Int).toNat - (0 : Int).toNat) = y.2.take (cutAt e y.2 n) := by simp
  rw [d1] at c1
  have hge : n ≤ cutAt e y.2 n := szs_ge_take (ats_posd e y.2) hn
  refine ⟨c1, rfl, hp.tag, fun hc => ?_, hp.lo, ?_⟩
  · have := congrArg List.length hc
    rw [List.length_take, List.length_nil] at this
    omega
  · have := hp.hi
    show y.1 + ((y.2.take _).length : Int) ≤ _
    rw [List.length_take]; omega
theorem rest_in {x : Pc} {y : Int × Bs} {n : Nat} (hp : PcIn w e x y) (hn : n < (ats e y.2).length) : PcIn w e (restPc e x y.2 n) (restTag y.1 (cutAt e y.2 n), y.2.drop (cutAt e y.2 n)) := by
  have hcl := cutAt_le e y.2 n
  have hlen := hp.by_.len
  have hcap := SlIn.le hp.by_
  have c2 := hp.by_.cut (l := (cutAt e y.2 n : Int)) (h := (x.bytes.len : Int)) (m := (x.bytes.cap : Int)) (by omega) (by omega) (by omega) (by omega) (by omega)
  have d2 : (y.2.drop (cutAt e y.2 n : Int).toNat).take ((x.bytes.len : Int).toNat - (cutAt e y.2 n : Int).toNat) = y.2.drop (cutAt e y.2 n) := by
    rw [Int.toNat_natCast, Int.toNat_natCast]
    exact List.take_of_length_le (by rw [List.length_drop]; omega)
  rw [d2] at c2
  have hlt : cutAt e y.2 n < y.2.length := by
    have h1 := szs_append ((ats e y.2).take n) ((ats e y.2).drop n)
    rw [List.take_append_drop, szs_all] at h1
    have h2 := szs_ge ((ats_posd e y.2).drop n)
    rw [List.length_drop] at h2
    unfold cutAt; omega
  have hlo := hp.lo; have hhi := hp.hi
  refine ⟨c2, rfl, by show restTag x.tag _ = restTag y.1 _; rw [hp.tag], fun hc => ?_, ?_, ?_⟩
  · have := congrArg List.length hc
    rw [List.length_drop, List.length_nil] at this
    omega
  · show -1 ≤ restTag y.1 _
    unfold restTag; split <;> omega
  · show restTag y.1 _ + ((y.2.drop _).length : Int) ≤ _
    rw [List.length_drop]
    unfold restTag; split <;> omega
theorem Pcs_one (l : List Pc) : ∀ v ∈ flat c112 (l.map pcT), isOne v = true := by
  intro v hv
  unfold flat at hv
  obtain ⟨x, hx, hv⟩ := List.mem_flatMap.1 hv
  obtain ⟨y, _, rfl⟩ := List.mem_map.1 hx
  exact Pc_one y v (by rw [flat_one]; exact hv)
theorem rdTree (tx : W.heap[p]? = some (txO e lim tp a)) {K : Addr → Cells.T c105 → World → Prop} (hK : K (at0 p) (tp, ()) W) : nn (some (at0 p)) (fun q => lds c105 (q.add 2) (K q)) W := by
  refine nn_some ?_
  rw [addr_add]
  refine lds_r tx (x := (tp, ())) (fun i v hv => ?_) hK
  match i, hv with
  | 0, hv => exact hv
  | i + 1, hv => cases hv
set_option maxHeartbeats 2000000 in
theorem treplace_call {from_ to_ : Nat} {s : Sl} {t : TypeId} {put : List Int} (h : Txt w p e lim na O M) (hft : from_ ≤ to_) (hto : to_ ≤ (aOf e M).length) (hs : SlIn w s t 1 (iv put)) (hsep : ∀ k, s.blk k → ¬ O k) (hfit : Fit e put) (hna : na + (bts e put).length < 2 ^ 40) (hput : put.length < 2 ^ 40)
    (hroom : szs ((aOf e M).take from_ ++ prs e put ++ (aOf e M).drop to_) ≤ lim) {K : Unit → World → Prop}
    (hK : ∀ O' M' w', Txt w' p e lim (na + (bts e put).length) O' M' → aOf e M' = (aOf e M).take from_ ++ prs e put ++ (aOf e M).drop to_ → Upd O w w' → (∀ k, O k → O' k) → (∀ k, O' k → O k ∨ w.heap.size ≤ k) → K () w') :
    callT Tryz.prog 78 #[.pointer (some (at0 p)), .int .i64 (from_ : Int), .int .i64 (to_ : Int), .slice s.a s.len s.cap] (.tup []) K w := by
  refine F78_calls ?_
  unfold F78
  obtain ⟨tr, a0, ab, tx, ht, hi, own, tops, pO, aO, hla⟩ := h.ex
  have few := h.few; have lims := h.lims; have hsz := h.sz
  have il := hi.len
  have hf : Fine tr.items := hi.fine (by omega)
  have fl := hf.few
  have hal : ab.length = a0.len := by have := own.len1; rwa [List.length_map] at this
  refine tfind_call h (by omega) fun i n w1 hs1 hil1 e1 => ?_
  refine tfind_call (h.ext e1) (by omega) fun j m w2 hs2 hil2 e2 => ?_
  rw [Int.toNat_natCast] at hs1 hs2
  have x2 := e1.trans e2
  have hij := spot_le hs1 hs2 hft
  have pcs : ∀ {i : Nat} {x : Pc}, tr.items[i]? = some x → ∃ y, M[i]? = some y ∧ PcIn w e x y ∧ y.2.length ≤ lim := by
    intro i x hx
    obtain ⟨y, hy, hp⟩ := hi.get i hx
    refine ⟨y, hy, hp, ?_⟩
    have h2 : szs (aOf e M) = szs (aOf e (M.take i)) + (y.2.length + szs (aOf e (M.drop (i + 1)))) := by
      have hil := (List.getElem?_eq_some_iff.1 hy).1
      have hd := List.drop_eq_getElem_cons hil
      have hx' : M[i] = y := by rw [List.getElem?_eq_getElem hil] at hy; exact Option.some.inj hy
      rw [hx'] at hd
      conv => lhs; rw [← List.take_append_drop i M, hd]
      rw [aOf_app, aOf_cons, szs_append, szs_append, szs_all]
    omega
  have spn : ∀ {at_ i n : Nat} {y : Int × Bs}, at_ ≤ (aOf e M).length → Spot e M at_ i n → M[i]? = some y → n ≤ (ats e y.2).length ∧ n < 2 ^ 30 := by
    intro at_ i n y hle hs hy
    rcases hs with ⟨_, _, rfl⟩ | ⟨x, hx, h1, h2, h3⟩
    · exact ⟨Nat.zero_le _, by decide⟩
    · rw [hy] at hx; cases hx
      exact ⟨h2, by omega⟩
  refine join_r (fun x W => ∃ plL ML, SlOwn W w2.heap.size x.1 112 7 (flat c112 (plL.map pcT)) ∧ Its w e plL ML ∧ aOf e ML = hdA e M i n ∧ (∀ x ∈ plL, ∀ k, x.bytes.blk k → O k) ∧ (∀ x ∈ plL, ∀ k, x.bytes.blk k → a0.blk k → top x.bytes ≤ top a0) ∧ plL.length ≤ 1 ∧ Ext w2 W) ?_ ?_
  · refine rdTree (x2.ext_get tx) (at_call (ht.ext x2) hf (by omega) fun w3 e3 => ?_)
    refine (St.start w3).newO fun b8 w4 S4 e4 => S4.aggSt 0 rfl rfl rfl rfl fun w5 S5 u5 => ?_
    cases hx : tr.items[i]? with
    | none =>
      have hM : M[i]? = none := List.getElem?_eq_none (by have := List.getElem?_eq_none_iff.1 hx; omega)
      have e0 : atI tr.items i = (Pc.zero, false) := by unfold atI; rw [hx]
      rw [e0, hdA_none hM]
      refine join_r (fun x W => x = (false, ()) ∧ w5 = W) (sif_false ⟨rfl, rfl⟩) ?_
      rintro _ _ ⟨rfl, rfl⟩
      exact sif_false ⟨[], [], SlOwn.nil _ _ _ _, trivial, rfl, (fun x hx => by cases hx), (fun x hx => by cases hx), Nat.zero_le _, e3.trans S5.upd⟩
    | some x =>
      have e0 : atI tr.items i = (x, true) := by unfold atI; rw [hx]
      rw [e0] at S5 ⊢
      obtain ⟨y, hy, hp, hyl⟩ := pcs hx
      have hn := spn (by omega) hs1 hy
      rw [hdA_some hy]
      refine join_r (fun x W => x = (decide (0 < n), ()) ∧ w5 = W) (sif_true ⟨tupb ?_, rfl⟩) ?_
      · simp only [decide_eq_true_eq, gt_iff_lt]; omega
      rintro _ _ ⟨rfl, rfl⟩
      refine sif_r (fun hn0 => ?_) (fun hn0 => ?_)
      · simp only [decide_eq_true_eq] at hn0
        have hlo := hp.lo; have hhi := hp.hi
        have hE : ∀ {V : World}, Ext w3 V → V.cell? (at0 p) = some (.int .i64 e.num) := fun x => cell_of (x.ext_get ((x2.trans e3).ext_get tx)) rfl
        have byB : By w3 x.bytes y.2 := hp.by_.ext (x2.trans e3)
        have S := S5
        refine join_r (fun s W => ∃ b, s.1 = at0 b ∧ W.heap[b]? = some (.cells (Cells.vals c112 (pcT (headPc e x y.2 n))).toArray 112 (0, 0)) ∧ Ext w3 W) ?_ ?_
        · refine S.drew fun w9 S e9 _ => S.lds 0 (pcT x) rfl ?_
          simp only [nn_eqT]
          refine ld_r (S.upd.ext_get ((x2.trans e3).ext_get tx)) (x := e.num) rfl ?_
          exact ⟨S.newO fun b18 wx S ex => keep_r (hE S.upd) (S.keeps 1 rfl (⟨S.newO fun b19 wx S ex => keep_r (hE S.upd) (S.keeps 2 rfl (pcut_call (byB.ext S.upd) (by omega) (by rw [hp.tag]; omega) (by omega) fun wx ex => (fun S => S.aggSt 1 rfl rfl rfl rfl fun wx S ux => S.aggSt 0 rfl rfl rfl rfl fun wx S ux => ⟨b18, rfl, S.at_ 1 rfl, S.upd⟩) (S.ext ex))), pcut_call (byB.ext S.upd) (by omega) (by rw [hp.tag]; omega) (by omega) fun wx ex => (fun S => ⟨S.newO fun b22 wx S ex => keep_r (hE S.upd) (S.keeps 2 rfl (S.aggSt 1 rfl rfl rfl rfl fun wx S ux => S.aggSt 0 rfl rfl rfl rfl fun wx S ux => ⟨b18, rfl, S.at_ 1 rfl, S.upd⟩)), trivial⟩) (S.ext ex)⟩)), ⟨S.newO fun b23 wx S ex => keep_r (hE S.upd) (S.keeps 1 rfl (⟨S.newO fun b24 wx S ex => keep_r (hE S.upd) (S.keeps 2 rfl (pcut_call (byB.ext S.upd) (by omega) (by rw [hp.tag]; omega) (by omega) fun wx ex => (fun S => S.aggSt 0 rfl rfl rfl rfl fun wx S ux => S.aggSt 1 rfl rfl rfl rfl fun wx S ux => ⟨b24, rfl, S.at_ 0 rfl, S.upd⟩) (S.ext ex))), pcut_call (byB.ext S.upd) (by omega) (by rw [hp.tag]; omega) (by omega) fun wx ex => (fun S => ⟨S.newO fun b27 wx S ex => keep_r (hE S.upd) (S.keeps 2 rfl (S.aggSt 0 rfl rfl rfl rfl fun wx S ux => S.aggSt 1 rfl rfl rfl rfl fun wx S ux => ⟨b27, rfl, S.at_ 0 rfl, S.upd⟩)), trivial⟩) (S.ext ex)⟩)), pcut_call (byB.ext S.upd) (by omega) (by rw [hp.tag]; omega) (by omega) fun wx ex => (fun S => ⟨S.newO fun b29 wx S ex => keep_r (hE S.upd) (S.keeps 1 rfl (⟨S.newO fun b30 wx S ex => keep_r (hE S.upd) (S.keeps 2 rfl (S.aggSt 1 rfl rfl rfl rfl fun wx S ux => S.aggSt 0 rfl rfl rfl rfl fun wx S ux => ⟨b29, rfl, S.at_ 1 rfl, S.upd⟩)), trivial⟩)), ⟨S.newO fun b31 wx S ex => keep_r (hE S.upd) (S.keeps 1 rfl (⟨S.newO fun b32 wx S ex => keep_r (hE S.upd) (S.keeps 2 rfl (S.aggSt 0 rfl rfl rfl rfl fun wx S ux => S.aggSt 1 rfl rfl rfl rfl fun wx S ux => ⟨b32, rfl, S.at_ 0 rfl, S.upd⟩)), trivial⟩)), trivial⟩⟩) (S.ext ex)⟩⟩
        · rintro ⟨_, _⟩ w9 ⟨b, rfl, hb, e9⟩
          dsimp only
          refine lds_r hb (x := pcT (headPc e x y.2 n)) (fun j v hv => by rw [Nat.zero_add, List.getElem?_toArray]; exact hv) (newO_r fun b32 w10 e10 n10 _ _ => ?_)
          have hbox : SlX w10 ⟨some (at0 b32), 1, 1⟩ 7 (flat c112 [pcT (headPc e x y.2 n)]) := (SlIn.of_box n10 (n := 1) (sz := 7) rfl).x
          have x10 := (e3.trans e9).trans e10
          refine append_rx eParts eParts.ts_ (s := ⟨none, 0, 0⟩) (x := ⟨some (at0 b32), 1, 1⟩) (SlOwn.nil w10 w2.heap.size _ _) hbox (Pc_one _) (by dsimp only; omega) (by have := x10.size; omega) fun ps' W4 o4 l4 u4 k4 => ?_
          refine ⟨[headPc e x y.2 n], [(y.1, y.2.take (cutAt e y.2 n))], o4, ⟨head_in hp hn0 hn.1, trivial⟩, ?_, ?_, ?_, Nat.le_refl _, x10.step u4 fun k hk => ?_⟩
          · show ats e (y.2.take (cutAt e y.2 n)) ++ [] = _
            rw [List.append_nil]; unfold cutAt
            rw [(ats_cut e n y.2).1]
          · intro z hz k hk
            rw [List.mem_singleton.1 hz] at hk
            exact pO x (List.mem_of_getElem? hx) k (cut_blk hk)
          · intro z hz k hk hk'
            rw [List.mem_singleton.1 hz] at hk ⊢
            have hcl := cutAt_le e y.2 n
            have hlen := hp.by_.len
            exact Nat.le_trans (cut_top hp.by_ (l := 0) (h := (cutAt e y.2 n : Int)) (by omega) (by omega) (by omega)) (tops x (List.mem_of_getElem? hx) k (cut_blk hk) hk')
          · obtain ⟨q, hq, _⟩ := hk; cases hq
      · simp only [decide_eq_false_iff_not] at hn0
        obtain rfl : n = 0 := by omega
        exact ⟨[], [], SlOwn.nil _ _ _ _, trivial, rfl, (fun x hx => by cases hx), (fun x hx => by cases hx), Nat.zero_le _, e3.trans S5.upd⟩
  rintro ⟨psL, _⟩ w3 ⟨plL, ML, rowL, itsL, hML, oL, topL, lenL, e3⟩
  dsimp only at rowL ⊢
  have x3 := x2.trans e3
  have tk1 := hd_spot hs1
  rw [← hML] at tk1
  have tk2 := drop_spot hs2
  refine fresh_call (hs.ext x3) (fun k hk => ⟨fun hc => hsep k hk (hc ▸ h.op), fun hc => hsep k hk (aO k hc)⟩) hfit (x3.ext_get tx) (own.ext x3) (by omega) hput fun psF a plF MF w4 tx4 own4 rowF itsF hMF topF blkF blkA old4 u4 cntF => ?_
  have nt4 : ∀ t, t ≠ 107 → t ≠ 5 → NoTy w3 (fun k => k = p ∨ a0.blk k) t := by
    rintro t h1 h2 k (rfl | hk) c fr hc
    · rw [x3.ext_get tx] at hc; cases hc; exact h1 rfl
    · obtain ⟨c', fr', hc'⟩ := (own.ext x3).in.blk_cells hk
      rw [hc] at hc'; cases hc'; exact h2 rfl
  have rowL4 := rowL.ty u4 (nt4 _ (by decide) (by decide))
  have ht4 : tr.In w4 := (ht.ext x3).ty u4 (nt4 _ (by decide) (by decide))
  have o4 : Old w w4 a0 a := fun y b hy htp => old4 y b (hy.ext x3) htp
  have lL := SlOwn.lenR (cs := c112) rowL (by decide)
  have lF := SlOwn.lenR (cs := c112) rowF (by decide)
  rw [List.length_map] at lL lF
  have z2 := e3.size
  have z4 := u4.size
  refine append_rx eParts eParts.ts_ rowL4 rowF.in.x (Pcs_one _) (by
    show (psL.len + psF.len + (psL.len + psF.len) / 4 + 512) * 64 ≤ 2 ^ 48
    omega) (by omega) fun psA w5 rowA lA u5 kA => ?_
  rw [← flat_append, ← List.map_append] at rowA
  have nt5 : ∀ t, t ≠ 112 → NoTy w4 psL.blk t := fun t ht => NoTy.blk rowL4.in (fun h => ht h.symm)
  have tx5 : w5.heap[p]? = some (txO e lim tr.ptr a) := u5.get tx4 fun hk => nt5 107 (by decide) _ hk _ _ tx4
  have own5 := own4.ty u5 (nt5 _ (by decide))
  have itsF5 := itsF.ty u5 (nt5 _ (by decide))
  have ht5 : tr.In w5 := ht4.ty u5 (nt5 _ (by decide))
  have o5 := o4.ty u5 (nt5 _ (by decide))
  have z5 := u5.size
  refine join_r (fun x W => ∃ plR MR, SlOwn W w2.heap.size x.1 112 7 (flat c112 ((plL ++ plF ++ plR).map pcT)) ∧ Its w e plR MR ∧ aOf e MR = tlA e M j m ∧ (∀ x ∈ plR, ∀ k, x.bytes.blk k → O k) ∧ (∀ x ∈ plR, ∀ k, x.bytes.blk k → a0.blk k → top x.bytes ≤ top a0) ∧ Upd psA.blk w5 W) ?_ ?_
  · refine rdTree tx5 (at_call ht5 hf (by omega) fun w6 e6 => ?_)
    refine (St.start w6).newO fun b41 w7 S7 e7 => S7.aggSt 0 rfl rfl rfl rfl fun w8 S8 u8 => ?_
    cases hx : tr.items[j]? with
    | none =>
      have hM : M[j]? = none := List.getElem?_eq_none (by have := List.getElem?_eq_none_iff.1 hx; omega)
      have e0 : atI tr.items j = (Pc.zero, false) := by unfold atI; rw [hx]
      rw [e0, tlA_none hM]
      refine sif_false ⟨[], [], ?_, trivial, rfl, (fun x hx => by cases hx), (fun x hx => by cases hx), Upd.of_ext (e6.trans S8.upd)⟩
      rw [List.append_nil]
      exact rowA.ext (e6.trans S8.upd)
    | some x =>
      have e0 : atI tr.items j = (x, true) := by unfold atI; rw [hx]
      rw [e0] at S8 ⊢
      obtain ⟨y, hy, hp, hyl⟩ := pcs hx
      have hn := spn hto hs2 hy
      rw [tlA_some hy]
      refine sif_true ?_
      have hlo := hp.lo; have hhi := hp.hi
      have tx6 := e6.ext_get tx5
      have hE : ∀ {V : World}, Ext w6 V → V.cell? (at0 p) = some (.int .i64 e.num) := fun x => cell_of (x.ext_get tx6) rfl
      have byB : By w6 x.bytes y.2 := ((o5 x.bytes y.2 hp.by_ (tops x (List.mem_of_getElem? hx))).1).ext e6
      have S := S8
      refine join_r (fun s W => ∃ b, s.1 = at0 b ∧ W.heap[b]? = some (.cells (Cells.vals c112 (pcT (restPc e x y.2 m))).toArray 112 (0, 0)) ∧ Ext w6 W) ?_ ?_
      · refine S.drew fun w9 S e9 _ => S.lds 0 (pcT x) rfl ?_
        simp only [nn_eqT]
        refine ld_r (S.upd.ext_get tx6) (x := e.num) rfl ?_
        exact ⟨S.newO fun b18 wx S ex => keep_r (hE S.upd) (S.keeps 1 rfl (⟨S.newO fun b19 wx S ex => keep_r (hE S.upd) (S.keeps 2 rfl (pcut_call (byB.ext S.upd) (by omega) (by rw [hp.tag]; omega) (by omega) fun wx ex => (fun S => S.aggSt 1 rfl rfl rfl rfl fun wx S ux => S.aggSt 0 rfl rfl rfl rfl fun wx S ux => ⟨b19, rfl, S.at_ 0 rfl, S.upd⟩) (S.ext ex))), pcut_call (byB.ext S.upd) (by omega) (by rw [hp.tag]; omega) (by omega) fun wx ex => (fun S => ⟨S.newO fun b22 wx S ex => keep_r (hE S.upd) (S.keeps 2 rfl (S.aggSt 1 rfl rfl rfl rfl fun wx S ux => S.aggSt 0 rfl rfl rfl rfl fun wx S ux => ⟨b22, rfl, S.at_ 0 rfl, S.upd⟩)), trivial⟩) (S.ext ex)⟩)), ⟨S.newO fun b23 wx S ex => keep_r (hE S.upd) (S.keeps 1 rfl (⟨S.newO fun b24 wx S ex => keep_r (hE S.upd) (S.keeps 2 rfl (pcut_call (byB.ext S.upd) (by omega) (by rw [hp.tag]; omega) (by omega) fun wx ex => (fun S => S.aggSt 0 rfl rfl rfl rfl fun wx S ux => S.aggSt 1 rfl rfl rfl rfl fun wx S ux => ⟨b23, rfl, S.at_ 1 rfl, S.upd⟩) (S.ext ex))), pcut_call (byB.ext S.upd) (by omega) (by rw [hp.tag]; omega) (by omega) fun wx ex => (fun S => ⟨S.newO fun b27 wx S ex => keep_r (hE S.upd) (S.keeps 2 rfl (S.aggSt 0 rfl rfl rfl rfl fun wx S ux => S.aggSt 1 rfl rfl rfl rfl fun wx S ux => ⟨b23, rfl, S.at_ 1 rfl, S.upd⟩)), trivial⟩) (S.ext ex)⟩)), pcut_call (byB.ext S.upd) (by omega) (by rw [hp.tag]; omega) (by omega) fun wx ex => (fun S => ⟨S.newO fun b29 wx S ex => keep_r (hE S.upd) (S.keeps 1 rfl (⟨S.newO fun b30 wx S ex => keep_r (hE S.upd) (S.keeps 2 rfl (S.aggSt 1 rfl rfl rfl rfl fun wx S ux => S.aggSt 0 rfl rfl rfl rfl fun wx S ux => ⟨b30, rfl, S.at_ 0 rfl, S.upd⟩)), trivial⟩)), ⟨S.newO fun b31 wx S ex => keep_r (hE S.upd) (S.keeps 1 rfl (⟨S.newO fun b32 wx S ex => keep_r (hE S.upd) (S.keeps 2 rfl (S.aggSt 0 rfl rfl rfl rfl fun wx S ux => S.aggSt 1 rfl rfl rfl rfl fun wx S ux => ⟨b31, rfl, S.at_ 1 rfl, S.upd⟩)), trivial⟩)), trivial⟩⟩) (S.ext ex)⟩⟩
      · rintro ⟨_, _⟩ w9 ⟨b, rfl, hb, e9⟩
        dsimp only
        simp only [addr_add]
        have hat : (restPc e x y.2 m).sm.atoms = (ats e y.2).length - m := by
          show (msr (ats e (y.2.drop (cutAt e y.2 m)))).atoms = _
          rw [msr_atoms (ats_posd e _)]
          unfold cutAt
          rw [(ats_cut e m y.2).2, List.length_drop]
        refine ld_r hb (x := (((restPc e x y.2 m).sm.atoms : Nat) : Int)) rfl (sif_r (fun h0 => ?_) (fun h0 => ?_))
        · simp only [decide_eq_true_eq, gt_iff_lt] at h0
          refine lds_r hb (x := pcT (restPc e x y.2 m)) (fun j v hv => by rw [Nat.zero_add, List.getElem?_toArray]; exact hv) (newO_r fun b32 w10 e10 n10 _ _ => ?_)
          have hbox : SlX w10 ⟨some (at0 b32), 1, 1⟩ 7 (flat c112 [pcT (restPc e x y.2 m)]) := (SlIn.of_box n10 (n := 1) (sz := 7) rfl).x
          have x10 := (e6.trans e9).trans e10
          refine append_rx eParts eParts.ts_ (x := ⟨some (at0 b32), 1, 1⟩) (rowA.ext x10) hbox (Pc_one _) (by
            show (psA.len + 1 + (psA.len + 1) / 4 + 512) * 64 ≤ 2 ^ 48
            omega) (by have := x10.size; omega) fun ps' W4 o4' l4 u4' k4 => ?_
          have ef : flat c112 ((plL ++ plF).map pcT) ++ flat c112 [pcT (restPc e x y.2 m)] = flat c112 ((plL ++ plF ++ [restPc e x y.2 m]).map pcT) := by rw [List.map_append (l₁ := plL ++ plF), flat_append]; rfl
          rw [ef] at o4'
          refine ⟨[restPc e x y.2 m], [(restTag y.1 (cutAt e y.2 m), y.2.drop (cutAt e y.2 m))], o4', ⟨rest_in hp (by omega), trivial⟩, ?_, ?_, ?_, (Upd.of_ext x10).trans u4'⟩
          · show ats e (y.2.drop (cutAt e y.2 m)) ++ [] = _
            rw [List.append_nil]; unfold cutAt
            rw [(ats_cut e m y.2).2]
          · intro z hz k hk
            rw [List.mem_singleton.1 hz] at hk
            exact pO x (List.mem_of_getElem? hx) k (cut_blk hk)
          · intro z hz k hk hk'
            rw [List.mem_singleton.1 hz] at hk ⊢
            have hcl := cutAt_le e y.2 m
            have hlen := hp.by_.len
            exact Nat.le_trans (cut_top hp.by_ (l := (cutAt e y.2 m : Int)) (h := (x.bytes.len : Int)) (by omega) (by omega) (by omega)) (tops x (List.mem_of_getElem? hx) k (cut_blk hk) hk')
        · simp only [decide_eq_false_iff_not, gt_iff_lt] at h0
          refine ⟨[], [], ?_, trivial, ?_, (fun x hx => by cases hx), (fun x hx => by cases hx), Upd.of_ext (e6.trans e9)⟩
          · rw [List.append_nil]; exact rowA.ext (e6.trans e9)
          · show [] = (ats e y.2).drop m
            rw [List.drop_eq_nil_of_le (by omega)]
  rintro ⟨psR, _⟩ w6 ⟨plR, MR, rowR, itsR, hMR, oR, topR, u6⟩
  dsimp only at rowR ⊢
  rw [← hMR] at tk2
  have nt6 : ∀ t, t ≠ 112 → NoTy w5 psA.blk t := fun t ht => NoTy.blk rowA.in (fun h => ht h.symm)
  have tx6 : w6.heap[p]? = some (txO e lim tr.ptr a) := u6.get tx5 fun hk => nt6 107 (by decide) _ hk _ _ tx5
  have own6 := own5.ty u6 (nt6 _ (by decide))
  have itsF6 := itsF5.ty u6 (nt6 _ (by decide))
  have ht6 : tr.In w6 := ht5.ty u6 (nt6 _ (by decide))
  have o6 := o5.ty u6 (nt6 _ (by decide))
  refine drew_r fun w7 e7 _ => rdTree (e7.ext_get tx6) (rdTree (e7.ext_get tx6) (tsize_call (ht6.ext e7) fun w8 e8 => ?_))
  have x8 := e7.trans e8
  have tx8 := x8.ext_get tx6
  refine keep_r ?_ ?_
  · rw [addr_add]
    refine cellsAt_of _ 0 fun q v hv => cell_of tx8 ?_
    match q, hv with
    | 0, hv => exact hv
    | q + 1, hv => cases hv
  have emin : (if ((tr.items.length : Nat) : Int) < IntKind.wrap .i64 ((j : Int) + 1) then ((tr.items.length : Nat) : Int) else IntKind.wrap .i64 ((j : Int) + 1)) = ((min (j + 1) tr.items.length : Nat) : Int) := by
    rw [wrap64 (by omega) (by omega)]
    split <;> omega
  rw [emin]
  have old_its : ∀ {l : List Pc} {N : Parts}, Its w e l N → (∀ x ∈ l, ∀ k, x.bytes.blk k → a0.blk k → top x.bytes ≤ top a0) → Its w6 e l N := fun hl htp => hl.to fun x hx b hb => (o6 x.bytes b hb (htp x hx)).1
  have its_all : Its w6 e (tr.items.take i ++ (plL ++ plF ++ plR) ++ tr.items.drop (min (j + 1) tr.items.length)) (M.take i ++ (ML ++ MF ++ MR) ++ M.drop (min (j + 1) tr.items.length)) :=
    Its.app (Its.app (old_its (hi.take i) fun x hx => tops x (List.mem_of_mem_take hx)) (Its.app (Its.app (old_its itsL topL) itsF6) (old_its itsR topR))) (old_its (hi.drop _) fun x hx => tops x (List.mem_of_mem_drop hx))
  have ed : M.drop (min (j + 1) tr.items.length) = M.drop (j + 1) := by
    by_cases hc : j + 1 ≤ tr.items.length
    · rw [Nat.min_eq_left hc]
    · rw [List.drop_eq_nil_of_le (by omega), List.drop_eq_nil_of_le (by omega)]
  have ea : aOf e (M.take i ++ (ML ++ MF ++ MR) ++ M.drop (min (j + 1) tr.items.length)) = (aOf e M).take from_ ++ prs e put ++ (aOf e M).drop to_ := by
    rw [ed, aOf_app, aOf_app, aOf_app, aOf_app, tk1, tk2, hMF]
    simp only [List.append_assoc]
  have hsA : szs (aOf e (M.take i ++ (ML ++ MF ++ MR) ++ M.drop (min (j + 1) tr.items.length))) < 2 ^ 59 := by rw [ea]; omega
  have hFine := its_all.fine hsA
  have hjl : min (j + 1) tr.items.length ≤ tr.items.length := Nat.min_le_right _ _
  have hi_le : i ≤ min (j + 1) tr.items.length := by
    rcases hs1 with ⟨_, rfl, _⟩ | ⟨x, hx, _⟩
    · exact Nat.zero_le _
    · have := (List.getElem?_eq_some_iff.1 hx).1; omega
  refine replace_call (t := tr) (n := i) (m := min (j + 1) tr.items.length) (l := plL ++ plF ++ plR) (ht6.ext x8) (rowR.in.ext x8) hf hFine.left.right hi_le hjl hFine fun t' w9 ht' hti e9 => ?_
  have x9 := x8.trans e9
  have tx9 := x9.ext_get tx6
  simp only [nn_eqT, addr_add]
  refine aggSt_r tx9 rfl rfl (by show 0 + 2 + 1 ≤ 4; decide) fun w10 u10 n10 _ => ?_
  have n10 : w10.heap[p]? = some (txO e lim t'.ptr a) := n10
  have nt10 : ∀ t, t ≠ 107 → NoTy w9 (fun k => k = p) t := fun t ht => NoTy.box tx9 (fun h => ht h.symm)
  have ht10 : t'.In w10 := ht'.ty u10 (nt10 _ (by decide))
  have o10 : Old w w10 a0 a := (o6.ty x9 (no_ext _ _)).ty u10 (nt10 _ (by decide))
  have uA : Upd O w w10 := by
    have hp' := h.op
    have v3 : Upd O w w3 := Upd.of_ext x3
    have v4 : Upd O w w4 := v3.trans (u4.mono fun k _ hk => hk.elim (fun h => h ▸ hp') fun h => aO k h)
    have v5 : Upd O w w5 := v4.new u5 fun k hk hS => by have := rowL4.blk_ge hS; have := x2.size; omega
    have v6 : Upd O w w6 := v5.new u6 fun k hk hS => by have := rowA.blk_ge hS; have := x2.size; omega
    exact (v6.trans (Upd.of_ext x9)).trans (u10.mono fun k _ hk => hk ▸ hp')
  have hsz10 := uA.size
  have own10 := (own6.ext x9).ty u10 (nt10 _ (by decide))
  have hlA : (ab ++ bts e put).length = a.len := by have := own10.len1; rwa [List.length_map] at this
  rw [List.length_append] at hlA
  refine hK (fun k => O k ∨ (w.heap.size ≤ k ∧ k < w10.heap.size)) (M.take i ++ (ML ++ MF ++ MR) ++ M.drop (min (j + 1) tr.items.length)) w10 ⟨⟨t', a, ab ++ bts e put, n10, ht10, ?_, own10, ?_, ?_, ?_, by omega⟩, lims, by rw [ea]; exact hroom, .inl h.op, ?_⟩ ea uA (fun k hk => .inl hk) (fun k hk => hk.imp id fun h => h.1)
  · rw [hti]
    exact (its_all.ext x9).ty u10 (nt10 _ (by decide))
  · rw [hti]
    have oldT : ∀ x : Pc, (∃ b, By w x.bytes b) → (∀ k, x.bytes.blk k → a0.blk k → top x.bytes ≤ top a0) → ∀ k, x.bytes.blk k → a.blk k → top x.bytes ≤ top a := fun x ⟨b, hb⟩ htp => (o10 x.bytes b hb htp).2
    intro x hx
    rcases List.mem_append.1 hx with hx | hx
    · rcases List.mem_append.1 hx with hx | hx
      · exact oldT x (hi.by_ x (List.mem_of_mem_take hx)) (tops x (List.mem_of_mem_take hx))
      · rcases List.mem_append.1 hx with hx | hx
        · rcases List.mem_append.1 hx with hx | hx
          · exact oldT x (itsL.by_ x hx) (topL x hx)
          · exact topF x hx
        · exact oldT x (itsR.by_ x hx) (topR x hx)
    · exact oldT x (hi.by_ x (List.mem_of_mem_drop hx)) (tops x (List.mem_of_mem_drop hx))
  · rw [hti]
    intro x hx k hk
    have new : w3.heap.size ≤ k → (∃ b, By w10 x.bytes b) → O k ∨ (w.heap.size ≤ k ∧ k < w10.heap.size) := fun h1 ⟨b, hb⟩ => .inr ⟨by have := x3.size; omega, hb.blk_lt hk⟩
    rcases List.mem_append.1 hx with hx | hx
    · rcases List.mem_append.1 hx with hx | hx
      · exact .inl (pO x (List.mem_of_mem_take hx) k hk)
      · rcases List.mem_append.1 hx with hx | hx
        · rcases List.mem_append.1 hx with hx | hx
          · exact .inl (oL x hx k hk)
          · rcases blkF x hx k hk with h1 | h1
            · exact .inl (aO k h1)
            · exact new h1 (((itsF6.ext x9).ty u10 (nt10 _ (by decide))).by_ x hx)
        · exact .inl (oR x hx k hk)
    · exact .inl (pO x (List.mem_of_mem_drop hx) k hk)
  · intro k hk
    rcases blkA k hk with h1 | h1
    · exact .inl (aO k h1)
    · exact .inr ⟨by have := x3.size; omega, own10.in.blk_lt hk⟩
  · intro k hk
    rcases hk with hk | hk
    · have := h.own k hk; omega
    · exact hk.2
end
end Go.Proofs.YtabcpghhfeplaaaGreat
