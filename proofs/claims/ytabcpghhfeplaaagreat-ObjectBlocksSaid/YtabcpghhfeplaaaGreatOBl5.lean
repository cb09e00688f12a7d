/- YtabcpghhfeplaaaGreatOBl5: parts of the proof, put together by program. -/
import Derived.Test.YtabcpghhfeplaaaGreatOBl4
set_option linter.unusedVariables false
set_option linter.unusedSimpArgs false
set_option linter.unusedSectionVars false
set_option maxRecDepth 100000
namespace Go.Proofs.YtabcpghhfeplaaaGreat
open Go Go.Vx
noncomputable def F19 (a0 : Option Addr) (a1 : Int) (a2 : (Int × Int × Int × Unit)) (K : ((Int × Int × Int × Unit) × Int × Unit) → World → Prop) : World → Prop :=
 newO (.cells #[(.int .i64 a2.1), (.int .i64 a2.2.1), (.int .i64 a2.2.2.1)] 39) fun b1 =>
 newO (.cells #[(.int .i64 (0 : Int)), (.int .i64 (0 : Int)), (.int .i64 (0 : Int))] 34) fun b2 =>
 lds c39 (at0 b1) fun (x3 : (Int × Int × Int × Unit)) =>
 callT Tryz.prog 37 #[(.pointer a0), (.int .i64 a1), (.agg (Cells.vals c39 x3).toArray), (.int .i64 (67 : Int)), (.int .i64 (68 : Int))] (.one (.one (.int .i64))) fun (x4 : Int) =>
 ld (.int .i64) (⟨b1, 2, none⟩ : Addr) fun (x5 : Int) =>
 callT Tryz.prog 38 #[(.int .i64 x5)] (.tup [(.one (.int .i64)), (.one .bool)]) fun (x6 : (Int × Bool × Unit)) =>
 join (S := Bool × Unit) (fun J7 =>
 sif (x4 == (1 : Int)) (
 J7 (true, ())) (
 J7 ((!x6.2.1), ()))) fun (s8 : Bool × Unit) =>
 sif s8.1 (
 aggSt (at0 b2) (.agg #[(.int .i64 (0 : Int)), (.int .i64 (0 : Int)), (.int .i64 (0 : Int))]) 3 <|
 lds c34 (at0 b2) fun (x9 : (Int × Int × Int × Unit)) =>
 K (x9, (1 : Int), ())) (
 sif (x4 != (0 : Int)) (
 aggSt (at0 b2) (.agg #[(.int .i64 (0 : Int)), (.int .i64 (0 : Int)), (.int .i64 (0 : Int))]) 3 <|
 lds c34 (at0 b2) fun (x10 : (Int × Int × Int × Unit)) =>
 K (x10, x4, ())) (
 callT Tryz.prog 40 #[(.pointer a0)] (.one (.one (.int .i64))) fun (x11 : Int) =>
 callT Tryz.prog 23 #[(.pointer a0), (.int .i64 (0 : Int)), (.int .i64 x11)] (.one (.one .sl)) fun (x12 : Sl) =>
 callT Tryz.prog 39 #[(.slice x12.a x12.len x12.cap), (.int .i64 (0 : Int))] (.one (.one .sl)) fun (x13 : Sl) =>
 join (S := Int × Unit) (fun J14 =>
 sloop (S := Int × Unit) (fun (s16 : Int × Unit) again17 =>
 join (S := Bool × Unit) (fun J18 =>
 sif (decide (s16.1 < ((x13.len : Nat) : Int))) (
 ix x13.a x13.len s16.1 fun p20 =>
 ld (.int .i64) ((p20.add (scaled (Int.toNat s16.1) 5)).add 1) fun (x21 : Int) =>
 J18 ((decide (a1 ≥ x21)), ())) (
 J18 (false, ()))) fun (s19 : Bool × Unit) =>
 sif s19.1 (
 again17 ((IntKind.wrap .i64 (s16.1 + (1 : Int))), ())) (
 J14 (s16.1, ()))) ((0 : Int), ())) fun (s15 : Int × Unit) =>
 join (S := Bool × Unit) (fun J22 =>
 sif (s15.1 == ((x13.len : Nat) : Int)) (
 J22 (true, ())) (
 lds c39 (at0 b1) fun (x24 : (Int × Int × Int × Unit)) =>
 callT Tryz.prog 41 #[(.agg (Cells.vals c39 x24).toArray)] (.one (.one (.int .i64))) fun (x25 : Int) =>
 J22 ((decide (x25 > ((x13.len : Nat) : Int))), ()))) fun (s23 : Bool × Unit) =>
 sif s23.1 (
 aggSt (at0 b2) (.agg #[(.int .i64 (0 : Int)), (.int .i64 (0 : Int)), (.int .i64 (0 : Int))]) 3 <|
 lds c34 (at0 b2) fun (x26 : (Int × Int × Int × Unit)) =>
 K (x26, (90 : Int), ())) (
 join (S := Int × Int × Unit) (fun J27 =>
 drew <|
 ix x13.a x13.len s15.1 fun p29 =>
 lds c72 (p29.add (scaled (Int.toNat s15.1) 5)) fun (x30 : (Int × Int × Int × Bool × Int × Unit)) =>
 ld (.int .i64) (⟨b1, 2, none⟩ : Addr) fun (x31 : Int) =>
 callT Tryz.prog 42 #[(.agg (Cells.vals c72 x30).toArray), (.int .i64 x31)] (.one (.one .bool)) fun (x32 : Bool) =>
 sif x32 (
 J27 (s15.1, (IntKind.wrap .i64 (s15.1 + (1 : Int))), ())) (
 J27 ((IntKind.wrap .i64 (s15.1 - (1 : Int))), s15.1, ()))) fun (s28 : Int × Int × Unit) =>
 drew <|
 ld (.int .i64) (⟨b1, 2, none⟩ : Addr) fun (x33 : Int) =>
 lds c39 (at0 b1) fun (x34 : (Int × Int × Int × Unit)) =>
 callT Tryz.prog 41 #[(.agg (Cells.vals c39 x34).toArray)] (.one (.one (.int .i64))) fun (x35 : Int) =>
 keep (fun w => w.cell? (⟨b1, 2, none⟩ : Addr) = some (Cell.val (.int .i64) x33)) <|
 callT Tryz.prog 43 #[(.slice x13.a x13.len x13.cap), (.int .i64 s28.1), (.int .i64 (-1 : Int)), (.int .i64 x33), (.int .i64 x6.1), (.int .i64 x35)] (.one (.one (.int .i64))) fun (x36 : Int) =>
 drew <|
 ld (.int .i64) (⟨b1, 2, none⟩ : Addr) fun (x37 : Int) =>
 lds c39 (at0 b1) fun (x38 : (Int × Int × Int × Unit)) =>
 callT Tryz.prog 41 #[(.agg (Cells.vals c39 x38).toArray)] (.one (.one (.int .i64))) fun (x39 : Int) =>
 keep (fun w => w.cell? (⟨b1, 2, none⟩ : Addr) = some (Cell.val (.int .i64) x37)) <|
 callT Tryz.prog 43 #[(.slice x13.a x13.len x13.cap), (.int .i64 s28.2.1), (.int .i64 (1 : Int)), (.int .i64 x6.1), (.int .i64 x37), (.int .i64 x39)] (.one (.one (.int .i64))) fun (x40 : Int) =>
 join (S := Bool × Unit) (fun J41 =>
 sif (decide (x36 < (0 : Int))) (
 J41 (true, ())) (
 J41 ((decide (x40 < (0 : Int))), ()))) fun (s42 : Bool × Unit) =>
 sif s42.1 (
 aggSt (at0 b2) (.agg #[(.int .i64 (0 : Int)), (.int .i64 (0 : Int)), (.int .i64 (0 : Int))]) 3 <|
 lds c34 (at0 b2) fun (x43 : (Int × Int × Int × Unit)) =>
 K (x43, (90 : Int), ())) (
 ld (.int .i64) (at0 b1) fun (x44 : Int) =>
 sif (x44 == (67 : Int)) (
 drew <|
 ix x13.a x13.len x36 fun p45 =>
 lds c72 (p45.add (scaled (Int.toNat x36) 5)) fun (x46 : (Int × Int × Int × Bool × Int × Unit)) =>
 ix x13.a x13.len x40 fun p47 =>
 lds c72 (p47.add (scaled (Int.toNat x40) 5)) fun (x48 : (Int × Int × Int × Bool × Int × Unit)) =>
 callT Tryz.prog 44 #[(.pointer a0), (.agg (Cells.vals c72 x46).toArray), (.agg (Cells.vals c72 x48).toArray)] (.one (.agg c34)) fun (x49 : (Int × Int × Int × Unit)) =>
 aggSt (at0 b2) (.agg (Cells.vals c34 x49).toArray) 3 <|
 lds c34 (at0 b2) fun (x50 : (Int × Int × Int × Unit)) =>
 K (x50, (0 : Int), ())) (
 drew <|
 ix x13.a x13.len x36 fun p51 =>
 ld (.int .i64) (p51.add (scaled (Int.toNat x36) 5)) fun (x52 : Int) =>
 ix x13.a x13.len x40 fun p53 =>
 ld (.int .i64) ((p53.add (scaled (Int.toNat x40) 5)).add 1) fun (x54 : Int) =>
 aggSt (at0 b2) (.agg #[(.int .i64 x52), (.int .i64 x54), (.int .i64 (0 : Int))]) 3 <|
 lds c34 (at0 b2) fun (x55 : (Int × Int × Int × Unit)) =>
 K (x55, (0 : Int), ()))))))
noncomputable def h19 : Hint := (hS (hR 3) (hS (hR 5) (hS (hR 8) (hS (hJ (8455716864, [(32, tB)]) (.region [] (.ops 3 (.split 29 (.skips 2 (hO 1)) (hO 3)))) (hC (hS (hR 3) hL) hL)) (hS (hS (hR 2) (hC (hS (hR 4) hL) hL)) (hS (hR 6) (hS (hR 1) (hJ (288221580058693632, [(12, tI)]) (.block (.loop 288221580058693632 [(12, tI)] (hS (hJ (72048797944905728, [(55, tB)]) (.region [] (.ops 5 (.split 47 (hO 8) (.skips 7 (hO 1))))) (hC hL hL)) (.block (hR 3))))) (hS (hJ (590007579982553939968, [(68, tB)]) (.region [] (.ops 5 (.split 62 (.skips 5 (hO 1)) (hO 6)))) (hC (hS (hR 3) hL) hL)) (hS (hR 6) (hJ (9652517090985554816819200, [(13, tI), (14, tI)]) (hS (.region [0, 1, 2, 3, 4, 5, 6] (hO 7)) (hC (hR 2) (hR 2))) (hS (.region [0, 1, 2, 3, 4, 5, 6, 7, 8] (hO 9)) (hS (.region [0, 1, 2, 3, 4, 5, 6, 7, 8] (hO 9)) (hS (.block (hJ (80495813114492566995040653541376, [(99, tB)]) (.region [] (.ops 3 (.split 102 (.skips 2 (hO 2)) (hO 4)))) (hC (hS (hR 3) hL) (hS (hR 4) (hC (hS (.region [0, 1, 2, 3, 4, 5, 6, 7, 8, 9, 10, 11] (hO 12)) hL) hL))))) (hS (.region [0, 1, 2, 3, 4, 5, 6, 7, 8, 9, 10, 11, 12] (hO 13)) hL)))))))))))))))
theorem F19_calls {a0 : Option Addr} {a1 : Int} {a2 : (Int × Int × Int × Unit)} {K : ((Int × Int × Int × Unit) × Int × Unit) → World → Prop} {w : World} (h : F19 a0 a1 a2 K w) : callT Tryz.prog 19 #[(.pointer a0), (.int .i64 a1), (.agg (Cells.vals c39 a2).toArray)] (.tup [(.agg c34), (.one (.int .i64))]) K w := tied tabOk Tryz.func19 h19 [(.pointer a0), (.int .i64 a1), (.agg (Cells.vals c39 a2).toArray)] (by kernel_rfl) h
noncomputable def F37 (a0 : Option Addr) (a1 : Int) (a2 : (Int × Int × Int × Unit)) (a3 : Int) (a4 : Int) (K : Int → World → Prop) : World → Prop :=
 newO (.cells #[(.int .i64 a2.1), (.int .i64 a2.2.1), (.int .i64 a2.2.2.1)] 39) fun b1 =>
 join (S := Bool × Unit) (fun J2 =>
 ld (.int .i64) (at0 b1) fun (x4 : Int) =>
 sif (decide (x4 < a3)) (
 J2 (true, ())) (
 ld (.int .i64) (at0 b1) fun (x5 : Int) =>
 sif (decide (x5 > a4)) (
 J2 (true, ())) (
 ld (.int .i64) (⟨b1, 1, none⟩ : Addr) fun (x6 : Int) =>
 J2 ((decide (x6 < (0 : Int))), ())))) fun (s3 : Bool × Unit) =>
 sif s3.1 (
 K (1 : Int)) (
 join (S := Bool × Unit) (fun J7 =>
 sif (decide (a1 < (0 : Int))) (
 J7 (true, ())) (
 callT Tryz.prog 40 #[(.pointer a0)] (.one (.one (.int .i64))) fun (x9 : Int) =>
 J7 ((decide (a1 > x9)), ()))) fun (s8 : Bool × Unit) =>
 sif s8.1 (
 K (2 : Int)) (
 K (0 : Int)))
noncomputable def h37 : Hint := (hS (hR 2) (hS (.block (hJ (134215680, [(11, tB)]) (.region [] (.ops 5 (.split 16 (.skips 4 (.ops 2 (.skips 3 (hO 2)))) (.ops 6 (.split 22 (.skips 3 (hO 2)) (hO 5)))))) (hC (hS (hR 1) hL) (hJ (68585259008, [(27, tB)]) (.region [] (.ops 3 (.split 30 (.skips 4 (hO 2)) (hO 6)))) (hC (hS (hR 1) hL) hL))))) (hS (hR 1) hL)))
theorem F37_calls {a0 : Option Addr} {a1 : Int} {a2 : (Int × Int × Int × Unit)} {a3 : Int} {a4 : Int} {K : Int → World → Prop} {w : World} (h : F37 a0 a1 a2 a3 a4 K w) : callT Tryz.prog 37 #[(.pointer a0), (.int .i64 a1), (.agg (Cells.vals c39 a2).toArray), (.int .i64 a3), (.int .i64 a4)] (.one (.one (.int .i64))) K w := tied tabOk Tryz.func37 h37 [(.pointer a0), (.int .i64 a1), (.agg (Cells.vals c39 a2).toArray), (.int .i64 a3), (.int .i64 a4)] (by kernel_rfl) h
noncomputable def F38 (a0 : Int) (K : (Int × Bool × Unit) → World → Prop) : World → Prop :=
 newO (.map #[] 0) fun b1 =>
 rawU Tryz.prog (Instr.mapUpdate 115 (.map (some b1)) (.int .i64 (40 : Int)) (.int .i64 (41 : Int))) <|
 rawU Tryz.prog (Instr.mapUpdate 115 (.map (some b1)) (.int .i64 (91 : Int)) (.int .i64 (93 : Int))) <|
 rawU Tryz.prog (Instr.mapUpdate 115 (.map (some b1)) (.int .i64 (123 : Int)) (.int .i64 (125 : Int))) <|
 rawU Tryz.prog (Instr.mapUpdate 115 (.map (some b1)) (.int .i64 (60 : Int)) (.int .i64 (62 : Int))) <|
 rdT Tryz.prog (.tup [(.one (.int .i64)), (.one .bool)]) (Instr.lookup 115 (.map (some b1)) (.int .i64 a0) true) fun (x2 : (Int × Bool × Unit)) =>
 K (x2.1, x2.2.1, ())
noncomputable def h38 : Hint := (hS (hR 2) (hS (hR 13) (hS (hR 4) hL)))
theorem F38_calls {a0 : Int} {K : (Int × Bool × Unit) → World → Prop} {w : World} (h : F38 a0 K w) : callT Tryz.prog 38 #[(.int .i64 a0)] (.tup [(.one (.int .i64)), (.one .bool)]) K w := tied tabOk Tryz.func38 h38 [(.int .i64 a0)] (by kernel_rfl) h
noncomputable def F39 (a0 : Sl) (a1 : Int) (K : Sl → World → Prop) : World → Prop :=
 callT Tryz.prog 68 #[(.slice a0.a a0.len a0.cap)] (.one (.one .sl)) fun (x1 : Sl) =>
 join (S := Sl × Unit) (fun J2 =>
 sloop (S := Sl × Int × Unit) (fun (s4 : Sl × Int × Unit) again5 =>
 sif (decide (s4.2.1 < (IntKind.wrap .i64 (((x1.len : Nat) : Int) - (1 : Int))))) (
 ix x1.a x1.len s4.2.1 fun p6 =>
 ld (.int .i64) (p6.add (scaled (Int.toNat s4.2.1) 1)) fun (x7 : Int) =>
 ix a0.a a0.len x7 fun p8 =>
 ld (.int .i64) (p8.add (scaled (Int.toNat x7) 1)) fun (x9 : Int) =>
 drew <|
 ix x1.a x1.len s4.2.1 fun p10 =>
 ld (.int .i64) (p10.add (scaled (Int.toNat s4.2.1) 1)) fun (x11 : Int) =>
 ix x1.a x1.len (IntKind.wrap .i64 (s4.2.1 + (1 : Int))) fun p12 =>
 ld (.int .i64) (p12.add (scaled (Int.toNat (IntKind.wrap .i64 (s4.2.1 + (1 : Int)))) 1)) fun (x13 : Int) =>
 ix x1.a x1.len (IntKind.wrap .i64 (s4.2.1 + (1 : Int))) fun p14 =>
 ld (.int .i64) (p14.add (scaled (Int.toNat (IntKind.wrap .i64 (s4.2.1 + (1 : Int)))) 1)) fun (x15 : Int) =>
 ix x1.a x1.len s4.2.1 fun p16 =>
 ld (.int .i64) (p16.add (scaled (Int.toNat s4.2.1) 1)) fun (x17 : Int) =>
 callT Tryz.prog 69 #[(.int .i64 x9)] (.one (.one (.int .i64))) fun (x18 : Int) =>
 keep (fun w => w.cell? (p16.add (scaled (Int.toNat s4.2.1) 1)) = some (Cell.val (.int .i64) x17)) <|
 keep (fun w => w.cell? (p14.add (scaled (Int.toNat (IntKind.wrap .i64 (s4.2.1 + (1 : Int)))) 1)) = some (Cell.val (.int .i64) x15)) <|
 keep (fun w => w.cell? (p12.add (scaled (Int.toNat (IntKind.wrap .i64 (s4.2.1 + (1 : Int)))) 1)) = some (Cell.val (.int .i64) x13)) <|
 keep (fun w => w.cell? (p10.add (scaled (Int.toNat s4.2.1) 1)) = some (Cell.val (.int .i64) x11)) <|
 newO (.cells #[(.int .i64 (IntKind.wrap .i64 (a1 + x11))), (.int .i64 (IntKind.wrap .i64 (a1 + x13))), (.int .i64 x18), (.bool (x15 == (IntKind.wrap .i64 (x17 + (1 : Int))))), (.int .i64 x9)] 72) fun b19 =>
 rawT Tryz.prog (.one (.one .sl)) (Builtin.append_ #[68, 68] 68 #[(.slice s4.1.a s4.1.len s4.1.cap), (.slice (some (at0 b19)) 1 1)]) fun (x20 : Sl) =>
 again5 (x20, (IntKind.wrap .i64 (s4.2.1 + (1 : Int))), ())) (
 J2 (s4.1, ()))) (⟨none, 0, 0⟩, (0 : Int), ())) fun (s3 : Sl × Unit) =>
 K s3.1
noncomputable def h39 : Hint := (hS (hR 1) (hS (hR 1) (hS (hR 3) (hJ (72057594037926304, [(5, tS)]) (hS (hR 4) (.block (.loop 72057594037911968 [(5, tS), (14, tI)] (hS (hR 1) (hS (hC hL hL) (hS (.block (hS (hR 2) (hS (hR 8) (.region [0, 1, 2, 3, 4, 5, 6, 7, 8, 9, 10, 11, 12, 13, 14, 16, 17, 18, 19, 20, 21, 22, 23, 24, 25, 26, 27, 15, 28, 29, 30, 31] (hO 32))))) (hR 2))))))) (hS (hR 2) hL)))))
theorem F39_calls {a0 : Sl} {a1 : Int} {K : Sl → World → Prop} {w : World} (h : F39 a0 a1 K w) : callT Tryz.prog 39 #[(.slice a0.a a0.len a0.cap), (.int .i64 a1)] (.one (.one .sl)) K w := tied tabOk Tryz.func39 h39 [(.slice a0.a a0.len a0.cap), (.int .i64 a1)] (by kernel_rfl) h
noncomputable def F41 (a0 : (Int × Int × Int × Unit)) (K : Int → World → Prop) : World → Prop :=
 newO (.cells #[(.int .i64 a0.1), (.int .i64 a0.2.1), (.int .i64 a0.2.2.1)] 39) fun b1 =>
 ld (.int .i64) (⟨b1, 1, none⟩ : Addr) fun (x2 : Int) =>
 K (if (1 : Int) > x2 then (1 : Int) else x2)
noncomputable def h41 : Hint := (hS (hR 2) (hS (hR 4) hL))
theorem F41_calls {a0 : (Int × Int × Int × Unit)} {K : Int → World → Prop} {w : World} (h : F41 a0 K w) : callT Tryz.prog 41 #[(.agg (Cells.vals c39 a0).toArray)] (.one (.one (.int .i64))) K w := tied tabOk Tryz.func41 h41 [(.agg (Cells.vals c39 a0).toArray)] (by kernel_rfl) h
noncomputable def F42 (a0 : (Int × Int × Int × Bool × Int × Unit)) (a1 : Int) (K : Bool → World → Prop) : World → Prop :=
 newO (.cells #[(.int .i64 a0.1), (.int .i64 a0.2.1), (.int .i64 a0.2.2.1), (.bool a0.2.2.2.1), (.int .i64 a0.2.2.2.2.1)] 72) fun b1 =>
 ld (.bool) (⟨b1, 3, none⟩ : Addr) fun (x2 : Bool) =>
 sif x2 (
 ld (.int .i64) (⟨b1, 4, none⟩ : Addr) fun (x3 : Int) =>
 K (x3 == a1)) (
 K false)
noncomputable def h42 : Hint := (hS (hR 2) (hS (.region [] (.ops 3 (.split 7 (hO 6) (.skips 4 (hO 2))))) hL))
theorem F42_calls {a0 : (Int × Int × Int × Bool × Int × Unit)} {a1 : Int} {K : Bool → World → Prop} {w : World} (h : F42 a0 a1 K w) : callT Tryz.prog 42 #[(.agg (Cells.vals c72 a0).toArray), (.int .i64 a1)] (.one (.one .bool)) K w := tied tabOk Tryz.func42 h42 [(.agg (Cells.vals c72 a0).toArray), (.int .i64 a1)] (by kernel_rfl) h
noncomputable def F43 (a0 : Sl) (a1 : Int) (a2 : Int) (a3 : Int) (a4 : Int) (a5 : Int) (K : Int → World → Prop) : World → Prop :=
 join (S := Unit) (fun J1 =>
 sloop (S := Int × Int × Int × Unit) (fun (s3 : Int × Int × Int × Unit) again4 =>
 join (S := Bool × Unit) (fun J5 =>
 sif (decide (s3.1 ≥ (0 : Int))) (
 J5 ((decide (s3.1 < ((a0.len : Nat) : Int))), ())) (
 J5 (false, ()))) fun (s6 : Bool × Unit) =>
 sif s6.1 (
 join (S := Int × Int × Unit) (fun J7 =>
 ix a0.a a0.len s3.1 fun p9 =>
 lds c72 (p9.add (scaled (Int.toNat s3.1) 5)) fun (x10 : (Int × Int × Int × Bool × Int × Unit)) =>
 callT Tryz.prog 42 #[(.agg (Cells.vals c72 x10).toArray), (.int .i64 a4)] (.one (.one .bool)) fun (x11 : Bool) =>
 sif x11 (
 J7 (s3.2.1, (IntKind.wrap .i64 (s3.2.2.1 + (1 : Int))), ())) (
 ix a0.a a0.len s3.1 fun p12 =>
 lds c72 (p12.add (scaled (Int.toNat s3.1) 5)) fun (x13 : (Int × Int × Int × Bool × Int × Unit)) =>
 callT Tryz.prog 42 #[(.agg (Cells.vals c72 x13).toArray), (.int .i64 a3)] (.one (.one .bool)) fun (x14 : Bool) =>
 sif (!x14) (
 J7 (s3.2.1, s3.2.2.1, ())) (
 sif (decide (s3.2.2.1 > (0 : Int))) (
 J7 (s3.2.1, (IntKind.wrap .i64 (s3.2.2.1 - (1 : Int))), ())) (
 sif ((IntKind.wrap .i64 (s3.2.1 - (1 : Int))) == (0 : Int)) (
 K s3.1) (
 J7 ((IntKind.wrap .i64 (s3.2.1 - (1 : Int))), s3.2.2.1, ())))))) fun (s8 : Int × Int × Unit) =>
 again4 ((IntKind.wrap .i64 (s3.1 + a2)), s8.1, s8.2.1, ())) (
 J1 ())) (a1, a5, (0 : Int), ())) fun (s2 : Unit) =>
 K (-1 : Int)
noncomputable def h43 : Hint := (hS (hR 1) (hS (hR 1) (hJ (4503599627366434, []) (.block (.loop 4503599627366434 [(1, tI), (5, tI), (13, tI)] (hS (hJ (4177920, [(21, tB)]) (.region [] (.ops 3 (.split 16 (hO 5) (.skips 4 (hO 1))))) (hC hL hL)) (hJ (4503599593828384, [(5, tI), (13, tI)]) (.block (.block (hS (hR 7) (hC (hR 3) (hS (hR 8) (hC hL (hS (hR 3) (hC (hR 3) (hS (hR 3) (hS (hR 2) (hC (hS (hR 2) hL) hL))))))))))) (hR 4))))) (hS (hR 1) hL))))
theorem F43_calls {a0 : Sl} {a1 : Int} {a2 : Int} {a3 : Int} {a4 : Int} {a5 : Int} {K : Int → World → Prop} {w : World} (h : F43 a0 a1 a2 a3 a4 a5 K w) : callT Tryz.prog 43 #[(.slice a0.a a0.len a0.cap), (.int .i64 a1), (.int .i64 a2), (.int .i64 a3), (.int .i64 a4), (.int .i64 a5)] (.one (.one (.int .i64))) K w := tied tabOk Tryz.func43 h43 [(.slice a0.a a0.len a0.cap), (.int .i64 a1), (.int .i64 a2), (.int .i64 a3), (.int .i64 a4), (.int .i64 a5)] (by kernel_rfl) h
noncomputable def F44 (a0 : Option Addr) (a1 : (Int × Int × Int × Bool × Int × Unit)) (a2 : (Int × Int × Int × Bool × Int × Unit)) (K : (Int × Int × Int × Unit) → World → Prop) : World → Prop :=
 newO (.cells #[(.int .i64 a1.1), (.int .i64 a1.2.1), (.int .i64 a1.2.2.1), (.bool a1.2.2.2.1), (.int .i64 a1.2.2.2.2.1)] 72) fun b1 =>
 newO (.cells #[(.int .i64 a2.1), (.int .i64 a2.2.1), (.int .i64 a2.2.2.1), (.bool a2.2.2.2.1), (.int .i64 a2.2.2.2.2.1)] 72) fun b2 =>
 newO (.cells #[(.int .i64 (0 : Int)), (.int .i64 (0 : Int)), (.int .i64 (0 : Int))] 34) fun b3 =>
 ld (.int .i64) (⟨b1, 1, none⟩ : Addr) fun (x4 : Int) =>
 ld (.int .i64) (at0 b2) fun (x5 : Int) =>
 newO (.cells #[(.int .i64 (0 : Int)), (.int .i64 (0 : Int)), (.int .i64 (0 : Int))] 34) fun b6 =>
 aggSt (at0 b6) (.agg #[(.int .i64 x4), (.int .i64 x5), (.int .i64 (0 : Int))]) 3 <|
 ld (.int .i64) (at0 b1) fun (x7 : Int) =>
 callT Tryz.prog 57 #[(.pointer a0), (.int .i64 x7)] (.one (.one (.int .i64))) fun (x8 : Int) =>
 callT Tryz.prog 71 #[(.pointer a0), (.int .i64 x8)] (.tup [(.agg c100), (.one (.int .i64))]) fun (x9 : ((Int × Int × Int × Int × Unit) × Int × Unit)) =>
 newO (.cells #[(.int .i64 (0 : Int)), (.int .i64 (0 : Int)), (.int .i64 (0 : Int)), (.int .i64 (0 : Int))] 100) fun b10 =>
 aggSt (at0 b10) (.agg (Cells.vals c100 x9.1).toArray) 4 <|
 ld (.int .i64) (at0 b2) fun (x11 : Int) =>
 callT Tryz.prog 57 #[(.pointer a0), (.int .i64 x11)] (.one (.one (.int .i64))) fun (x12 : Int) =>
 callT Tryz.prog 71 #[(.pointer a0), (.int .i64 x12)] (.tup [(.agg c100), (.one (.int .i64))]) fun (x13 : ((Int × Int × Int × Int × Unit) × Int × Unit)) =>
 newO (.cells #[(.int .i64 (0 : Int)), (.int .i64 (0 : Int)), (.int .i64 (0 : Int)), (.int .i64 (0 : Int))] 100) fun b14 =>
 aggSt (at0 b14) (.agg (Cells.vals c100 x13.1).toArray) 4 <|
 join (S := Bool × Unit) (fun J15 =>
 ld (.int .i64) (⟨b10, 1, none⟩ : Addr) fun (x17 : Int) =>
 ld (.int .i64) (⟨b1, 1, none⟩ : Addr) fun (x18 : Int) =>
 sif (x17 != x18) (
 J15 (true, ())) (
 lds c100 (at0 b10) fun (x19 : (Int × Int × Int × Int × Unit)) =>
 lds c100 (at0 b14) fun (x20 : (Int × Int × Int × Int × Unit)) =>
 rdB Tryz.prog (do eqGuard .eql 100 (Operand.tmp 43) (Operand.tmp 44) (.agg (Cells.vals c100 x19).toArray) (.agg (Cells.vals c100 x20).toArray); binOp .eql 100 (.agg (Cells.vals c100 x19).toArray) (.agg (Cells.vals c100 x20).toArray) : Sem Value) fun r21 =>
 J15 (r21, ()))) fun (s16 : Bool × Unit) =>
 sif s16.1 (
 lds c34 (at0 b6) fun (x22 : (Int × Int × Int × Unit)) =>
 aggSt (at0 b3) (.agg (Cells.vals c34 x22).toArray) 3 <|
 lds c34 (at0 b3) fun (x23 : (Int × Int × Int × Unit)) =>
 K x23) (
 join (S := Unit) (fun J24 =>
 drew <|
 ld (.int .i64) (at0 b14) fun (x26 : Int) =>
 ld (.int .i64) (at0 b2) fun (x27 : Int) =>
 ld (.int .i64) (at0 b14) fun (x28 : Int) =>
 callT Tryz.prog 23 #[(.pointer a0), (.int .i64 x26), (.int .i64 x27)] (.one (.one .sl)) fun (x29 : Sl) =>
 keep (fun w => w.cell? (at0 b14) = some (Cell.val (.int .i64) x28)) <|
 callT Tryz.prog 39 #[(.slice x29.a x29.len x29.cap), (.int .i64 x28)] (.one (.one .sl)) fun (x30 : Sl) =>
 sloop (S := Int × Unit) (fun (s31 : Int × Unit) again32 =>
 sif (decide (s31.1 < ((x30.len : Nat) : Int))) (
 ix x30.a x30.len s31.1 fun p33 =>
 lds c72 (p33.add (scaled (Int.toNat s31.1) 5)) fun (x34 : (Int × Int × Int × Bool × Int × Unit)) =>
 newO (.cells #[(.int .i64 (0 : Int)), (.int .i64 (0 : Int)), (.int .i64 (0 : Int)), (.bool false), (.int .i64 (0 : Int))] 72) fun b35 =>
 aggSt (at0 b35) (.agg (Cells.vals c72 x34).toArray) 5 <|
 ld (.int .i64) (⟨b35, 2, none⟩ : Addr) fun (x36 : Int) =>
 sif (x36 != (0 : Int)) (
 lds c34 (at0 b6) fun (x37 : (Int × Int × Int × Unit)) =>
 aggSt (at0 b3) (.agg (Cells.vals c34 x37).toArray) 3 <|
 lds c34 (at0 b3) fun (x38 : (Int × Int × Int × Unit)) =>
 K x38) (
 again32 ((IntKind.wrap .i64 (s31.1 + (1 : Int))), ()))) (
 J24 ())) ((0 : Int), ())) fun (s25 : Unit) =>
 ld (.int .i64) (⟨b10, 2, none⟩ : Addr) fun (x39 : Int) =>
 ld (.int .i64) (at0 b14) fun (x40 : Int) =>
 sif (x39 == x40) (
 ld (.int .i64) (⟨b1, 1, none⟩ : Addr) fun (x41 : Int) =>
 ld (.int .i64) (⟨b1, 1, none⟩ : Addr) fun (x42 : Int) =>
 aggSt (at0 b3) (.agg #[(.int .i64 x41), (.int .i64 x42), (.int .i64 (0 : Int))]) 3 <|
 lds c34 (at0 b3) fun (x43 : (Int × Int × Int × Unit)) =>
 K x43) (
 ld (.int .i64) (⟨b10, 2, none⟩ : Addr) fun (x44 : Int) =>
 ld (.int .i64) (at0 b14) fun (x45 : Int) =>
 aggSt (at0 b3) (.agg #[(.int .i64 x44), (.int .i64 x45), (.int .i64 (1 : Int))]) 3 <|
 lds c34 (at0 b3) fun (x46 : (Int × Int × Int × Unit)) =>
 K x46))
noncomputable def h44 : Hint := (hS (hR 3) (hS (hR 7) (hS (hR 12) (hS (hR 12) (hS (hJ (140600049401856, [(46, tB)]) (.region [] (.ops 6 (.split 42 (.skips 3 (hO 1)) (hO 4)))) (hC (hS (hR 2) hL) hL)) (hJ (147573671114699710464, []) (hS (.region [0, 1, 2, 3, 4, 6, 7, 10, 5, 8, 9] (hO 11)) (.block (.loop 147285722213524709376 [(58, tI)] (hS (hR 1) (hS (hC hL hL) (hS (.block (hS (hR 4) (hS (hR 3) (hC (hS (hR 2) hL) hL)))) (hR 2))))))) (hS (hS (hR 5) (hC (hS (hR 6) hL) hL)) (hS (hR 6) hL))))))))
theorem F44_calls {a0 : Option Addr} {a1 : (Int × Int × Int × Bool × Int × Unit)} {a2 : (Int × Int × Int × Bool × Int × Unit)} {K : (Int × Int × Int × Unit) → World → Prop} {w : World} (h : F44 a0 a1 a2 K w) : callT Tryz.prog 44 #[(.pointer a0), (.agg (Cells.vals c72 a1).toArray), (.agg (Cells.vals c72 a2).toArray)] (.one (.agg c34)) K w := tied tabOk Tryz.func44 h44 [(.pointer a0), (.agg (Cells.vals c72 a1).toArray), (.agg (Cells.vals c72 a2).toArray)] (by kernel_rfl) h
noncomputable def F57 (a0 : Option Addr) (a1 : Int) (K : Int → World → Prop) : World → Prop :=
 callT Tryz.prog 40 #[(.pointer a0)] (.one (.one (.int .i64))) fun (x1 : Int) =>
 callT Tryz.prog 66 #[(.pointer a0), (.int .i64 (if x1 < (if (0 : Int) > a1 then (0 : Int) else a1) then x1 else (if (0 : Int) > a1 then (0 : Int) else a1)))] (.one (.one (.int .i64))) fun (x2 : Int) =>
 K x2
noncomputable def h57 : Hint := (hS (hR 1) (hS (hR 8) hL))
theorem F57_calls {a0 : Option Addr} {a1 : Int} {K : Int → World → Prop} {w : World} (h : F57 a0 a1 K w) : callT Tryz.prog 57 #[(.pointer a0), (.int .i64 a1)] (.one (.one (.int .i64))) K w := tied tabOk Tryz.func57 h57 [(.pointer a0), (.int .i64 a1)] (by kernel_rfl) h
noncomputable def F71 (a0 : Option Addr) (a1 : Int) (K : ((Int × Int × Int × Int × Unit) × Int × Unit) → World → Prop) : World → Prop :=
 newO (.cells #[(.int .i64 (0 : Int)), (.int .i64 (0 : Int)), (.int .i64 (0 : Int)), (.int .i64 (0 : Int))] 100) fun b1 =>
 sif (decide (a1 < (0 : Int))) (
 aggSt (at0 b1) (.agg #[(.int .i64 (0 : Int)), (.int .i64 (0 : Int)), (.int .i64 (0 : Int)), (.int .i64 (0 : Int))]) 4 <|
 lds c100 (at0 b1) fun (x2 : (Int × Int × Int × Int × Unit)) =>
 K (x2, (2 : Int), ())) (
 callT Tryz.prog 67 #[(.pointer a0), (.int .i64 a1)] (.one (.one (.int .i64))) fun (x3 : Int) =>
 sif (decide (x3 < (0 : Int))) (
 aggSt (at0 b1) (.agg #[(.int .i64 (0 : Int)), (.int .i64 (0 : Int)), (.int .i64 (0 : Int)), (.int .i64 (0 : Int))]) 4 <|
 lds c100 (at0 b1) fun (x4 : (Int × Int × Int × Int × Unit)) =>
 K (x4, (2 : Int), ())) (
 callT Tryz.prog 40 #[(.pointer a0)] (.one (.one (.int .i64))) fun (x5 : Int) =>
 callT Tryz.prog 66 #[(.pointer a0), (.int .i64 x5)] (.one (.one (.int .i64))) fun (x6 : Int) =>
 sif (decide (a1 < x6)) (
 callT Tryz.prog 67 #[(.pointer a0), (.int .i64 (IntKind.wrap .i64 (a1 + (1 : Int))))] (.one (.one (.int .i64))) fun (x7 : Int) =>
 callT Tryz.prog 97 #[(.pointer a0), (.int .i64 x3), (.int .i64 x7)] (.one (.agg c100)) fun (x8 : (Int × Int × Int × Int × Unit)) =>
 aggSt (at0 b1) (.agg (Cells.vals c100 x8).toArray) 4 <|
 lds c100 (at0 b1) fun (x9 : (Int × Int × Int × Int × Unit)) =>
 K (x9, (0 : Int), ())) (
 callT Tryz.prog 40 #[(.pointer a0)] (.one (.one (.int .i64))) fun (x10 : Int) =>
 callT Tryz.prog 40 #[(.pointer a0)] (.one (.one (.int .i64))) fun (x11 : Int) =>
 aggSt (at0 b1) (.agg #[(.int .i64 x3), (.int .i64 x10), (.int .i64 x11), (.int .i64 (0 : Int))]) 4 <|
 lds c100 (at0 b1) fun (x12 : (Int × Int × Int × Int × Unit)) =>
 K (x12, (0 : Int), ()))))
noncomputable def h71 : Hint := (hS (hR 2) (hS (hS (hR 2) (hC (hS (hR 3) hL) hL)) (hS (hR 4) (hS (hS (hR 2) (hC (hS (hR 3) hL) hL)) (hS (hS (hR 6) (hC (hS (hR 9) hL) hL)) (hS (hR 8) hL))))))
theorem F71_calls {a0 : Option Addr} {a1 : Int} {K : ((Int × Int × Int × Int × Unit) × Int × Unit) → World → Prop} {w : World} (h : F71 a0 a1 K w) : callT Tryz.prog 71 #[(.pointer a0), (.int .i64 a1)] (.tup [(.agg c100), (.one (.int .i64))]) K w := tied tabOk Tryz.func71 h71 [(.pointer a0), (.int .i64 a1)] (by kernel_rfl) h
noncomputable def F97 (a0 : Option Addr) (a1 : Int) (a2 : Int) (K : (Int × Int × Int × Int × Unit) → World → Prop) : World → Prop :=
 newO (.cells #[(.int .i64 (0 : Int)), (.int .i64 (0 : Int)), (.int .i64 (0 : Int)), (.int .i64 (0 : Int))] 100) fun b1 =>
 callT Tryz.prog 23 #[(.pointer a0), (.int .i64 (if (IntKind.wrap .i64 (a2 - (2 : Int))) > a1 then (IntKind.wrap .i64 (a2 - (2 : Int))) else a1)), (.int .i64 a2)] (.one (.one .sl)) fun (x2 : Sl) =>
 ix x2.a x2.len (IntKind.wrap .i64 (((x2.len : Nat) : Int) - (1 : Int))) fun p3 =>
 ld (.int .i64) (p3.add (scaled (Int.toNat (IntKind.wrap .i64 (((x2.len : Nat) : Int) - (1 : Int)))) 1)) fun (x4 : Int) =>
 sif (x4 == (13 : Int)) (
 aggSt (at0 b1) (.agg #[(.int .i64 a1), (.int .i64 (IntKind.wrap .i64 (a2 - (1 : Int)))), (.int .i64 a2), (.int .i64 (3 : Int))]) 4 <|
 lds c100 (at0 b1) fun (x5 : (Int × Int × Int × Int × Unit)) =>
 K x5) (
 join (S := Bool × Unit) (fun J6 =>
 sif (decide ((IntKind.wrap .i64 (((x2.len : Nat) : Int) - (1 : Int))) > (0 : Int))) (
 ix x2.a x2.len (IntKind.wrap .i64 ((IntKind.wrap .i64 (((x2.len : Nat) : Int) - (1 : Int))) - (1 : Int))) fun p8 =>
 ld (.int .i64) (p8.add (scaled (Int.toNat (IntKind.wrap .i64 ((IntKind.wrap .i64 (((x2.len : Nat) : Int) - (1 : Int))) - (1 : Int)))) 1)) fun (x9 : Int) =>
 J6 ((x9 == (13 : Int)), ())) (
 J6 (false, ()))) fun (s7 : Bool × Unit) =>
 sif s7.1 (
 aggSt (at0 b1) (.agg #[(.int .i64 a1), (.int .i64 (IntKind.wrap .i64 (a2 - (2 : Int)))), (.int .i64 a2), (.int .i64 (2 : Int))]) 4 <|
 lds c100 (at0 b1) fun (x10 : (Int × Int × Int × Int × Unit)) =>
 K x10) (
 aggSt (at0 b1) (.agg #[(.int .i64 a1), (.int .i64 (IntKind.wrap .i64 (a2 - (1 : Int)))), (.int .i64 a2), (.int .i64 (1 : Int))]) 4 <|
 lds c100 (at0 b1) fun (x11 : (Int × Int × Int × Int × Unit)) =>
 K x11))
noncomputable def h97 : Hint := (hS (hR 1) (hS (hR 8) (hS (hR 4) (hS (.block (hS (hR 6) (hC (hS (hR 6) hL) (hJ (2197949513728, [(30, tB)]) (.region [] (.ops 3 (.split 33 (hO 8) (.skips 6 (hO 2))))) (hC (hS (hR 6) hL) hL))))) (hS (hR 6) hL)))))
theorem F97_calls {a0 : Option Addr} {a1 : Int} {a2 : Int} {K : (Int × Int × Int × Int × Unit) → World → Prop} {w : World} (h : F97 a0 a1 a2 K w) : callT Tryz.prog 97 #[(.pointer a0), (.int .i64 a1), (.int .i64 a2)] (.one (.agg c100)) K w := tied tabOk Tryz.func97 h97 [(.pointer a0), (.int .i64 a1), (.int .i64 a2)] (by kernel_rfl) h
end Go.Proofs.YtabcpghhfeplaaaGreat
namespace Go.Proofs.YtabcpghhfeplaaaGreat
open Go Go.Vx Cdc Trx Lns
section
variable {w w' : World} {S : Nat → Prop} {p : Nat} {e : Enc} {lim na : Nat} {O : Nat → Prop} {M : Parts}
abbrev lnT (l : Ln) : Cells.T c100 := ((l.from_ : Int), (l.to_ : Int), (l.next : Int), (l.kind : Int), ())
theorem hal (e : Enc) (M : Parts) : (atoms (aOf e M)).length = (aOf e M).length := List.length_map _
theorem skI_nat (A : List Int) (k : Nat) : skI A (k : Int) = match sk A k with | some m => (m : Int) | none => -1 := by
 unfold skI
 rw [if_neg (by omega), Int.toNat_natCast]
 all_goals (cases sk A k <;> rfl)
theorem closed_call (h : Txt w p e lim na O M) {f x : Nat} (hfx : f < x) (hx : x ≤ (atoms (aOf e M)).length) {K : Cells.T c100 → World → Prop} (hK : ∀ w', Ext w w' → K (lnT (lnC (atoms (aOf e M)) f x)) w') :
  callT Tryz.prog 97 #[.pointer (some (at0 p)), .int .i64 (f : Int), .int .i64 (x : Int)] (.one (.agg c100)) K w := by
 refine F97_calls ?_
 unfold F97
 have few := h.few; have lims := h.lims
 generalize hA : atoms (aOf e M) = A at *
 have hAl : A.length = (aOf e M).length := by rw [← hA]; exact hal e M
 refine (St.start w).newO fun b1 w1 S1 e1 => ?_
 have ew : IntKind.wrap .i64 ((x : Int) - 2) = (x : Int) - 2 := wrap64 (by omega) (by omega)
 rw [ew]
 obtain ⟨g, hg⟩ : ∃ g : Nat, g = max f (x - 2) := ⟨_, rfl⟩
 have eg : (if (x : Int) - 2 > (f : Int) then (x : Int) - 2 else (f : Int)) = (g : Int) := by split <;> omega
 rw [eg]
 refine atoms_call (h.ext e1) fun s w2 o2 e2 => ?_
 rw [hA] at o2
 have hsub : sub A (g : Int) (x : Int) = (A.drop g).take (x - g) := by unfold sub; simp
 rw [hsub] at o2
 have hl := o2.len1
 rw [List.length_map, List.length_take, List.length_drop] at hl
 have hsl : s.len = x - g := by omega
 have get : ∀ i, i < x - g → ((A.drop g).take (x - g))[i]? = A[g + i]? := fun i hi => by rw [List.getElem?_take, if_pos hi, List.getElem?_drop]
 have ew1 : IntKind.wrap .i64 (((s.len : Nat) : Int) - 1) = ((x - g - 1 : Nat) : Int) := by rw [wrap64 (by omega) (by omega)]; omega
 rw [ew1]
 have S2 := S1.ext e2
 obtain ⟨a, ha⟩ : ∃ a, A[x - 1]? = some a := ⟨_, List.getElem?_eq_getElem (by omega)⟩
 have ex1 : IntKind.wrap .i64 ((x : Int) - 1) = ((x - 1 : Nat) : Int) := by rw [wrap64 (by omega) (by omega)]; omega
 have fin : ∀ {l : Ln} {W : World}, St (fun _ => False) w W [(b1, .cells #[.int .i64 0, .int .i64 0, .int .i64 0, .int .i64 0] 100 (0, 0))] → lnC A f x = l →
   aggSt (at0 b1) (.agg (Cells.vals c100 (lnT l)).toArray) 4 (lds c100 (at0 b1) fun x => K x) W := by
  intro l W SW el
  exact SW.aggSt 0 rfl rfl rfl rfl fun w3 S3 _ => S3.lds 0 (lnT l) rfl (by subst el; exact hK w3 S3.upd)
 refine ix_ld (c := .int .i64) (xs := (A.drop g).take (x - g)) o2.in (by omega) (x := a) (by rw [Int.toNat_natCast, get _ (by omega), ← ha]; congr 1; omega) fun q => sif_r (fun hc => ?_) (fun hc => ?_)
 ·simp only [beq_iff_eq] at hc
  rw [ex1]
  exact fin (l := ⟨f, x - 1, x, 3⟩) S2 (by unfold lnC; rw [if_pos (by rw [ha, hc])])
 ·simp only [beq_eq_false_iff_ne] at hc
  have h13 : ¬ A[x - 1]? = some 13 := by rw [ha]; exact fun h => hc (Option.some.inj h)
  refine join_r (fun y W => y = (decide (f + 1 < x ∧ A[x - 2]? = some 13), ()) ∧ w2 = W) ?_ ?_
  ·refine sif_r (fun hd => ?_) (fun hd => ?_)
   ·simp only [decide_eq_true_eq, gt_iff_lt] at hd
    have ew2 : IntKind.wrap .i64 (((x - g - 1 : Nat) : Int) - 1) = ((x - g - 2 : Nat) : Int) := by rw [wrap64 (by omega) (by omega)]; omega
    rw [ew2]
    obtain ⟨b, hb⟩ : ∃ b, A[x - 2]? = some b := ⟨_, List.getElem?_eq_getElem (by omega)⟩
    refine ix_ld (c := .int .i64) (xs := (A.drop g).take (x - g)) o2.in (by omega) (x := b) (by rw [Int.toNat_natCast, get _ (by omega), ← hb]; congr 1; omega) fun q2 => ⟨tupb ?_, rfl⟩
    simp only [beq_iff_eq, decide_eq_true_eq, hb, Option.some.injEq]
    omega
   ·simp only [decide_eq_false_iff_not, gt_iff_lt] at hd
    refine ⟨tupb ?_, rfl⟩
    simp only [Bool.false_eq_true, decide_eq_true_eq, false_iff]
    omega
  rintro _ _ ⟨rfl, rfl⟩
  refine sif_r (fun hd => ?_) (fun hd => ?_)
  ·simp only [decide_eq_true_eq] at hd
   have ew3 : (x : Int) - 2 = ((x - 2 : Nat) : Int) := by omega
   rw [ew3]
   exact fin (l := ⟨f, x - 2, x, 2⟩) S2 (by unfold lnC; rw [if_neg h13, if_pos hd])
  ·simp only [decide_eq_false_iff_not] at hd
   rw [ex1]
   exact fin (l := ⟨f, x - 1, x, 1⟩) S2 (by unfold lnC; rw [if_neg h13, if_neg hd])
def atRes (r : Option Ln) : Cells.T c100 × Int × Unit := match r with
 | some l => (lnT l, 0, ())
 | none => (lnT ⟨0, 0, 0, 0⟩, 2, ())
theorem lat_call {i : Int} (h : Txt w p e lim na O M) (hi : i < 2 ^ 62) {K : Cells.T c100 × Int × Unit → World → Prop} (hK : ∀ w', Ext w w' → K (atRes (lnI (atoms (aOf e M)) i)) w') :
  callT Tryz.prog 71 #[.pointer (some (at0 p)), .int .i64 i] (.tup [(.agg c100), (.one (.int .i64))]) K w := by
 refine F71_calls ?_
 unfold F71
 have few := h.few; have lims := h.lims
 have hal := hal e M
 refine (St.start w).newO fun b1 w1 S1 e1 => ?_
 refine sif_r (fun hc => ?_) (fun hc => ?_)
 ·simp only [decide_eq_true_eq] at hc
  refine S1.aggSt 0 rfl rfl rfl rfl fun w2 S2 _ => S2.lds 0 (lnT ⟨0, 0, 0, 0⟩) rfl ?_
  have := hK w2 S2.upd
  unfold lnI at this
  rw [if_pos hc] at this
  exact this
 simp only [decide_eq_false_iff_not] at hc
 obtain ⟨n, rfl⟩ : ∃ n : Nat, i = (n : Int) := ⟨i.toNat, by omega⟩
 unfold lnI at hK
 rw [if_neg hc, Int.toNat_natCast] at hK
 refine seek_call (h.ext e1) fun w2 e2 => ?_
 have S2 := S1.ext e2
 rw [skI_nat]
 cases hf : sk (atoms (aOf e M)) n with
 | none =>
  refine sif_r (fun _ => ?_) (fun h => by simp at h)
  refine S2.aggSt 0 rfl rfl rfl rfl fun w3 S3 _ => S3.lds 0 (lnT ⟨0, 0, 0, 0⟩) rfl ?_
  have := hK w3 S3.upd
  unfold lnAt at this
  rw [hf] at this
  exact this
 | some f =>
  refine sif_r (fun h => by simp at h; omega) (fun _ => ?_)
  obtain ⟨hnb, hfl, hnf, _⟩ := sk_get hf
  refine len_call (h.ext S2.upd) fun w3 e3 => breaks_call (h.ext (S2.ext e3).upd) fun w4 e4 => ?_
  have S4 := (S2.ext e3).ext e4
  rw [Int.toNat_natCast, ← hal, ← brs_nb]
  refine sif_r (fun hlt => ?_) (fun hlt => ?_)
  ·simp only [decide_eq_true_eq] at hlt
   have ew : IntKind.wrap .i64 ((n : Int) + 1) = ((n + 1 : Nat) : Int) := by rw [wrap64 (by omega) (by omega)]; omega
   rw [ew]
   refine seek_call (h.ext S4.upd) fun w5 e5 => ?_
   have S5 := S4.ext e5
   rw [skI_nat]
   obtain ⟨x, hx⟩ := sk_ok (A := atoms (aOf e M)) (k := n + 1) (by omega)
   obtain ⟨_, hxl, _, _⟩ := sk_get hx
   rw [hx]
   refine closed_call (h.ext S5.upd) (sk_lt hf hx (by omega)) hxl fun w6 e6 => (S5.ext e6).aggSt 0 rfl rfl rfl rfl fun w7 S7 _ => S7.lds 0 (lnT _) rfl ?_
   have := hK w7 S7.upd
   unfold lnAt at this
   rw [hf] at this
   simp only [hx] at this
   exact this
  ·simp only [decide_eq_false_iff_not] at hlt
   refine len_call (h.ext S4.upd) fun w5 e5 => len_call (h.ext (S4.ext e5).upd) fun w6 e6 => ((S4.ext e5).ext e6).aggSt 0 rfl rfl rfl rfl fun w7 S7 _ => S7.lds 0 (lnT ⟨f, (aOf e M).length, (aOf e M).length, 0⟩) rfl ?_
   have := hK w7 S7.upd
   unfold lnAt at this
   rw [hf] at this
   simp only [sk_none (atoms (aOf e M)) (n + 1) (by omega)] at this
   rw [hal] at this
   exact this
theorem lof_call {at_ : Int} (h : Txt w p e lim na O M) {K : Int → World → Prop} (hK : ∀ w', Ext w w' → K ((nb (atoms (aOf e M)) at_.toNat : Nat) : Int) w') :
  callT Tryz.prog 57 #[.pointer (some (at0 p)), .int .i64 at_] (.one (.one (.int .i64))) K w := by
 refine F57_calls ?_
 unfold F57
 have hal := hal e M
 refine len_call h fun w1 e1 => breaks_call (h.ext e1) fun w2 e2 => ?_
 have := hK w2 (e1.trans e2)
 have e : nb (atoms (aOf e M)) (if (((aOf e M).length : Nat) : Int) < (if (0 : Int) > at_ then (0 : Int) else at_) then (((aOf e M).length : Nat) : Int) else (if (0 : Int) > at_ then (0 : Int) else at_)).toNat = nb (atoms (aOf e M)) at_.toNat := by
  by_cases h0 : (0 : Int) > at_
  ·rw [if_pos h0, if_neg (by omega)]
   have : at_.toNat = (0 : Int).toNat := by omega
   rw [this]
  ·rw [if_neg h0]
   split
   ·rw [Int.toNat_natCast, nb_ge _ _ (by omega), nb_ge _ _ (by omega)]
   ·rfl
 rw [e]; exact this
end
end Go.Proofs.YtabcpghhfeplaaaGreat
namespace Go.Proofs.YtabcpghhfeplaaaGreat
open Go Go.Vx Cdc Trx Gly Clu Lns Obx
section
variable {w w' : World} {S : Nat → Prop} {p : Nat} {e : Enc} {lim na : Nat} {O : Nat → Prop} {M : Parts}
abbrev celT (c : Cel) : Cells.T c72 := ((c.from_ : Int), (c.to_ : Int), (c.kind : Int), c.alone, c.atom, ())
abbrev CelIn (w : World) (s : Sl) (C : List Cel) : Prop := SlIn w s 72 5 (flat c72 (C.map celT))
theorem CelIn.lenC {s : Sl} {C : List Cel} (h : CelIn w s C) : C.length = s.len := by
 have := SlIn.lenR (cs := c72) h (by decide)
 rwa [List.length_map] at this
theorem ix_cel {s : Sl} {C : List Cel} {i : Nat} {c : Cel} {K : Addr → Cells.T c72 → World → Prop} (h : CelIn w s C) (hc : C[i]? = some c) (hK : ∀ p, K p (celT c) w) :
  ix s.a s.len (i : Int) (fun p => lds c72 (p.add (scaled (Int.toNat (i : Int)) 5)) (K p)) w :=
 ix_lds (cs := c72) h (by decide) (by omega) (by rw [Int.toNat_natCast, List.getElem?_map, hc]; rfl) hK
theorem ix_celF {s : Sl} {C : List Cel} {i : Nat} {c : Cel} {k : Cell} {j : Nat} {y : k.T} {K : Addr → k.T → World → Prop} (h : CelIn w s C) (hc : C[i]? = some c) (hy : (Cells.vals c72 (celT c))[j]? = some (k.val y)) (hK : ∀ p, K p y w) :
  ix s.a s.len (i : Int) (fun p => ld k ((p.add (scaled (Int.toNat (i : Int)) 5)).add j) (K p)) w :=
 ix_ldf (cs := c72) h (by omega) (by rw [Int.toNat_natCast, List.getElem?_map, hc]; rfl) hy hK
theorem ix_celF0 {s : Sl} {C : List Cel} {i : Nat} {c : Cel} {k : Cell} {y : k.T} {K : Addr → k.T → World → Prop} (h : CelIn w s C) (hc : C[i]? = some c) (hy : (Cells.vals c72 (celT c))[0]? = some (k.val y)) (hK : ∀ p, K p y w) :
  ix s.a s.len (i : Int) (fun p => ld k (p.add (scaled (Int.toNat (i : Int)) 5)) (K p)) w :=
 ix_ldf0 (cs := c72) h (by omega) (by rw [Int.toNat_natCast, List.getElem?_map, hc]; rfl) hy hK
theorem eCells : ElemOk Tryz.prog 68 72 5 40 := ElemOk.of (z := .agg #[.int .i64 0, .int .i64 0, .int .i64 0, .bool false, .int .i64 0]) i68_ok i72_ok rfl rfl rfl (by decide)
theorem cel_one (c : Cel) : ∀ v ∈ flat c72 [celT c], isOne v = true := by
 intro v hv
 rw [flat_one] at hv
 have h : v ∈ [_, _, _, _, _] := hv
 simp only [List.mem_cons, List.not_mem_nil, or_false] at h
 rcases h with rfl | rfl | rfl | rfl | rfl <;> rfl
theorem is_call {c : Cel} {a : Int} {K : Bool → World → Prop} (hK : ∀ w', Ext w w' → K (c.is a) w') : callT Tryz.prog 42 #[.agg (Cells.vals c72 (celT c)).toArray, .int .i64 a] (.one (.one .bool)) K w := by
 refine F42_calls (a0 := celT c) ?_
 unfold F42
 refine (St.start w).newO fun b w1 S1 e1 => S1.ld 0 rfl (x := c.alone) rfl (sif_r (fun h => S1.ld 0 rfl (x := c.atom) rfl ?_) (fun h => ?_))
 ·have := hK w1 e1
  unfold Cel.is at this
  rw [h, Bool.true_and] at this
  exact this
 ·have := hK w1 e1
  unfold Cel.is at this
  rw [h, Bool.false_and] at this
  exact this
theorem cells_call {A : List Int} {s : Sl} {t : TypeId} {off : Nat} (hs : SlIn w s t 1 (iv A)) (hl : A.length < 2 ^ 40) (ho : off < 2 ^ 60) {K : Sl → World → Prop} (hK : ∀ s' w', CelIn w' s' (cels A off) → Ext w w' → (∀ k, s'.blk k → w.heap.size ≤ k) → K s' w') :
  callT Tryz.prog 39 #[.slice s.a s.len s.cap, .int .i64 (off : Int)] (.one (.one .sl)) K w := by
 refine F39_calls ?_
 unfold F39
 refine cbreaks_call hs hl fun b w1 o1 e1 => ?_
 have hbl := o1.len1
 rw [List.length_map] at hbl
 have hcp := cuts_pos A
 have hcl := cutsTo_len A A.length
 have hcl' : (cuts A).length ≤ A.length + 1 := hcl
 have ew : IntKind.wrap .i64 (((b.len : Nat) : Int) - 1) = (((cuts A).length - 1 : Nat) : Int) := by rw [wrap64 (by omega) (by omega)]; omega
 rw [ew]
 have nvi : nv (cuts A) = ((cuts A).map fun (n : Nat) => (n : Int)).map (Cell.int .i64).val := by rw [List.map_map]; rfl
 rw [nvi] at o1
 have hcels := cels_len A off
 refine join_r (fun x W => SlOwn W w1.heap.size x.1 72 5 (flat c72 ((cels A off).map celT)) ∧ Ext w W) ?_ (fun x W h => hK _ _ h.1.in h.2 (fun k hk => by have := h.1.blk_ge hk; have := e1.size; omega))
 refine sloop_r (fun x W => ∃ i, i ≤ (cels A off).length ∧ x.2 = ((i : Int), ()) ∧ SlOwn W w1.heap.size x.1 72 5 (flat c72 (((cels A off).take i).map celT)) ∧ Ext w1 W) (fun x _ => ((((cels A off).length : Nat) : Int) - x.2.1).toNat) ⟨0, Nat.zero_le _, rfl, SlOwn.nil _ _ _ _, Ext.refl _⟩ ?_
 rintro ⟨r, _⟩ W ⟨i, hi, rfl, hr, e2⟩
 dsimp only at hr ⊢
 have hrl : i = r.len := by
  have := SlOwn.lenR (cs := c72) hr (by decide)
  rw [List.length_map, List.length_take] at this; omega
 refine sif_r (fun hc => ?_) (fun hc => ?_)
 ·simp only [decide_eq_true_eq] at hc
  obtain ⟨c, hc'⟩ : ∃ c, (cels A off)[i]? = some c := ⟨_, List.getElem?_eq_getElem (by omega)⟩
  obtain ⟨x, y, g1, g2, g3, g4, g5, g6, _, _, g7, g8, g9⟩ := (cels_ok hc').ex
  have o2 := o1.ext e2
  have m1 : ((cuts A).map fun (n : Nat) => (n : Int))[(i : Int).toNat]? = some (x : Int) := by rw [Int.toNat_natCast, List.getElem?_map, g1]; rfl
  have ew1 : IntKind.wrap .i64 ((i : Int) + 1) = ((i + 1 : Nat) : Int) := by rw [wrap64 (by omega) (by omega)]; omega
  have m2 : ((cuts A).map fun (n : Nat) => (n : Int))[((i + 1 : Nat) : Int).toNat]? = some (y : Int) := by rw [Int.toNat_natCast, List.getElem?_map, g2]; rfl
  rw [ew1]
  refine ix_ld (c := .int .i64) o2.in (by omega) m1 fun p1 => ix_ld (c := .int .i64) (xs := A) (hs.ext (e1.trans e2)) (by omega) (x := c.atom) (by rw [Int.toNat_natCast]; exact g7) fun p2 => drew_r fun w3 e3 _ => ?_
  have o3 := o2.ext e3
  refine ix_ldE (c := .int .i64) o3.in (by omega) m1 fun p3 k3 => ix_ldE (c := .int .i64) o3.in (by omega) m2 fun p4 k4 => ix_ldE (c := .int .i64) o3.in (by omega) m2 fun p5 k5 => ix_ldE (c := .int .i64) o3.in (by omega) m1 fun p6 k6 => ?_
  refine word_call fun w4 e4 => keep_r (k6 w4 e4) (keep_r (k5 w4 e4) (keep_r (k4 w4 e4) (keep_r (k3 w4 e4) ?_)))
  refine newO_r fun b5 w5 e5 n5 hb5 _ => ?_
  have e15 := ((e2.trans e3).trans e4).trans e5
  have ec : ∀ z : Nat, z ≤ A.length → IntKind.wrap .i64 ((off : Int) + (z : Int)) = ((off + z : Nat) : Int) := fun z hz => by rw [wrap64 (by omega) (by omega)]; omega
  have eb : ((y : Int) == IntKind.wrap .i64 ((x : Int) + 1)) = c.alone := by
   rw [wrap64 (by omega) (by omega), Bool.eq_iff_iff, beq_iff_eq, g9]; omega
  rw [ec x (by omega), ec y (by omega), eb, ← g5, ← g6, ← g8] at n5
  have hbox : SlX w5 ⟨some (at0 b5), 1, 1⟩ 5 (flat c72 [celT c]) := (SlIn.of_box n5 (n := 1) (sz := 5) rfl).x
  refine append_rx eCells eCells.ts_ (x := ⟨some (at0 b5), 1, 1⟩) (hr.ext ((e3.trans e4).trans e5)) hbox (cel_one c) (by
   show (r.len + 1 + (r.len + 1) / 4 + 512) * 40 ≤ 2 ^ 48
   have := cels_le A off
   omega) (by have := e15.size; omega) fun r' w6 o6 l6 u6 k6 => ?_
  have e6 : flat c72 (((cels A off).take i).map celT) ++ flat c72 [celT c] = flat c72 (((cels A off).take (i + 1)).map celT) := by
   rw [List.take_add_one, hc', List.map_append, flat_append]; rfl
  rw [e6] at o6
  exact ⟨⟨i + 1, by omega, rfl, o6, e15.step u6 fun k hk => hr.blk_ge hk⟩, by omega⟩
 ·simp only [decide_eq_false_iff_not] at hc
  have : i = (cels A off).length := by omega
  subst this
  rw [List.take_length] at hr
  exact ⟨hr, e1.trans e2⟩
abbrev mvT (kind count arg : Int) : Cells.T c39 := (kind, count, arg, ())
theorem checked_call {at_ kind count arg lo hi : Int} (h : Txt w p e lim na O M) {K : Int → World → Prop} (hK : ∀ w', Ext w w' → K (checked (aOf e M).length at_ kind count lo hi) w') :
  callT Tryz.prog 37 #[.pointer (some (at0 p)), .int .i64 at_, .agg (Cells.vals c39 (mvT kind count arg)).toArray, .int .i64 lo, .int .i64 hi] (.one (.one (.int .i64))) K w := by
 refine F37_calls (a2 := mvT kind count arg) ?_
 unfold F37
 unfold checked at hK
 refine (St.start w).newO fun b w1 S1 e1 => ?_
 refine join_r (fun x W => x = (decide (kind < lo ∨ hi < kind ∨ count < 0), ()) ∧ w1 = W) ?_ ?_
 ·refine S1.ld 0 rfl (x := kind) rfl (sif_r (fun h1 => ⟨tupb ?_, rfl⟩) (fun h1 => S1.ld 0 rfl (x := kind) rfl (sif_r (fun h2 => ⟨tupb ?_, rfl⟩) (fun h2 => S1.ld 0 rfl (x := count) rfl ⟨tupb ?_, rfl⟩))))
  all_goals simp only [decide_eq_true_eq, decide_eq_false_iff_not, true_iff, gt_iff_lt] at *
  all_goals omega
 rintro _ _ ⟨rfl, rfl⟩
 refine sif_r (fun h1 => ?_) (fun h1 => ?_)
 ·simp only [decide_eq_true_eq] at h1
  have := hK w1 e1
  rwa [if_pos h1] at this
 simp only [decide_eq_false_iff_not] at h1
 rw [if_neg h1] at hK
 refine join_r (fun x W => x = (decide (at_ < 0 ∨ (((aOf e M).length : Nat) : Int) < at_), ()) ∧ Ext w W) ?_ ?_
 ·refine sif_r (fun h2 => ⟨tupb ?_, e1⟩) (fun h2 => len_call (h.ext e1) fun w2 e2 => ⟨tupb ?_, e1.trans e2⟩)
  all_goals simp only [decide_eq_true_eq, decide_eq_false_iff_not, true_iff, gt_iff_lt] at *
  all_goals omega
 rintro _ w2 ⟨rfl, e2⟩
 refine sif_r (fun h2 => ?_) (fun h2 => ?_)
 ·simp only [decide_eq_true_eq] at h2
  have := hK w2 e2
  rwa [if_pos h2] at this
 ·simp only [decide_eq_false_iff_not] at h2
  have := hK w2 e2
  rwa [if_neg h2] at this
theorem times_call {kind count arg : Int} (hc : count < 2 ^ 63) {K : Int → World → Prop} (hK : ∀ w', Ext w w' → K ((times count : Nat) : Int) w') : callT Tryz.prog 41 #[.agg (Cells.vals c39 (mvT kind count arg)).toArray] (.one (.one (.int .i64))) K w := by
 refine F41_calls (a0 := mvT kind count arg) ?_
 unfold F41
 refine (St.start w).newO fun b w1 S1 e1 => S1.ld 0 rfl (x := count) rfl ?_
 have := hK w1 e1
 unfold times at this
 have e : (if (1 : Int) > count then (1 : Int) else count) = (((max count 1).toNat : Nat) : Int) := by split <;> omega
 rw [e]; exact this
theorem mapII : MapTy Tryz.prog 115 (.int .i64 0) := ⟨3, 3, by kernel_rfl, i3_ok.und, fun w => i3_ok.run_zero w rfl⟩
theorem upd_r {m : Nat} {es : List IEnt} (hm : MapI w m es) (k : Int) (v : Value) {K : World → Prop} (hK : ∀ es' w', MapI w' m es' → (∀ k', mget es' k' = if k' = k then some v else mget es k') → Upd (fun b => b = m) w w' → K w') :
  rawU Tryz.prog (Instr.mapUpdate 115 (.map (some m)) (.int .i64 k) v) K w := by
 obtain ⟨es', w', hr, hm', hg, u, _, _⟩ := update_run mapII hm k v
 exact ⟨w', hr, hK es' w' hm' hg u⟩
theorem fellow_call {a : Int} {K : Int × Bool × Unit → World → Prop} (hK : ∀ w', Ext w w' → K ((fellow a).getD 0, (fellow a).isSome, ()) w') : callT Tryz.prog 38 #[.int .i64 a] (.tup [(.one (.int .i64)), (.one .bool)]) K w := by
 refine F38_calls ?_
 unfold F38
 refine newO_r fun b w1 e1 n1 hb _ => ?_
 refine upd_r (MapI.made b n1) 40 _ fun es2 w2 m2 g2 u2 => upd_r m2 91 _ fun es3 w3 m3 g3 u3 => upd_r m3 123 _ fun es4 w4 m4 g4 u4 => upd_r m4 60 _ fun es5 w5 m5 g5 u5 => ?_
 have e5 : Ext w w5 := (((e1.step u2 fun k hk => by omega).step u3 fun k hk => by omega).step u4 fun k hk => by omega).step u5 fun k hk => by omega
 have hg : mget es5 a = (fellow a).map (Value.int .i64) := by
  rw [g5, g4, g3, g2]
  unfold fellow
  have h0 : mget [] a = none := rfl
  rw [h0]
  repeat' split
  all_goals first | rfl | omega
 have hl := lookup_run mapII m5 a
 rw [hg] at hl
 refine ⟨((fellow a).getD 0, (fellow a).isSome, ()), ?_, hK w5 e5⟩
 exact hl.trans (by cases fellow a <;> rfl)
def oI : Option Nat → Int
 | some j => (j : Int)
 | none => -1
theorem nth_call {C : List Cel} {s : Sl} {i : Int} {want other : Int} {k : Nat} (up : Bool) (hs : CelIn w s C) (hl : C.length < 2 ^ 40) (h1 : -1 ≤ i) (h2 : i ≤ C.length) (hu : up = true → 0 ≤ i) (hd : up = false → i < C.length) (hk : 1 ≤ k) (hk2 : k < 2 ^ 62) {K : Int → World → Prop}
  (hK : ∀ w', Ext w w' → K (oI (nthL C want other (walkI up C.length i) k 0)) w') :
  callT Tryz.prog 43 #[.slice s.a s.len s.cap, .int .i64 i, .int .i64 (if up then 1 else -1), .int .i64 want, .int .i64 other, .int .i64 (k : Int)] (.one (.one (.int .i64))) K w := by
 refine F43_calls ?_
 unfold F43
 have hlen := hs.lenC
 have step : ∀ {j : Nat}, j < C.length → walkI up C.length (j : Int) = j :: walkI up C.length ((j : Int) + (if up then 1 else -1)) := by
  intro j hj
  cases up with
  | true => exact walkI_up hj
  | false => exact walkI_down
 refine join_r (fun _ W => Ext w W ∧ nthL C want other (walkI up C.length i) k 0 = none) ?_ (fun _ W h => by have := hK W h.1; rwa [h.2] at this)
 refine sloop_r (fun x W => ∃ (j : Int) (q d : Nat), x = (j, (q : Int), (d : Int), ()) ∧ -1 ≤ j ∧ j ≤ C.length ∧ (up = true → 0 ≤ j) ∧ (up = false → j < C.length) ∧ 1 ≤ q ∧ q ≤ k ∧ d ≤ C.length ∧ ((up = true → d ≤ j) ∧ (up = false → d + j < C.length)) ∧ Ext w W ∧ nthL C want other (walkI up C.length i) k 0 = nthL C want other (walkI up C.length j) q d)
  (fun x _ => if up then ((C.length : Int) - x.1).toNat else (x.1 + 1).toNat) ⟨i, k, 0, rfl, h1, h2, hu, hd, hk, Nat.le_refl _, Nat.zero_le _, ⟨fun h => by have := hu h; omega, fun h => by have := hd h; omega⟩, Ext.refl w, rfl⟩ ?_
 rintro _ W ⟨j, q, d, rfl, g1, g2, gu, gd, hq, hqk, hdl, hdb, e1, heq⟩
 dsimp only
 refine join_r (fun x W' => x = (decide (0 ≤ j ∧ j < C.length), ()) ∧ W = W') ?_ ?_
 ·refine sif_r (fun h => ⟨tupb ?_, rfl⟩) (fun h => ⟨tupb ?_, rfl⟩)
  all_goals simp only [decide_eq_true_eq, decide_eq_false_iff_not, ge_iff_le, Bool.false_eq_true, false_iff] at *
  all_goals omega
 rintro _ _ ⟨rfl, rfl⟩
 refine sif_r (fun h => ?_) (fun h => ?_)
 ·simp only [decide_eq_true_eq] at h
  obtain ⟨m, rfl⟩ : ∃ m : Nat, j = (m : Int) := ⟨j.toNat, by omega⟩
  obtain ⟨c, hc⟩ : ∃ c, C[m]? = some c := ⟨_, List.getElem?_eq_getElem (by omega)⟩
  rw [step (by omega), nthL, hc] at heq
  simp only at heq
  have ews : IntKind.wrap .i64 ((m : Int) + (if up then 1 else -1)) = (m : Int) + (if up then 1 else -1) := by split <;> exact wrap64 (by omega) (by omega)
  have fin : ∀ {q' d' : Nat} {W' : World}, Ext w W' → 1 ≤ q' → q' ≤ k → d' ≤ d + 1 → nthL C want other (walkI up C.length i) k 0 = nthL C want other (walkI up C.length ((m : Int) + (if up then 1 else -1))) q' d' →
    (fun s' (w'' : World) => (∃ (j : Int) (q d : Nat), s' = (j, (q : Int), (d : Int), ()) ∧ -1 ≤ j ∧ j ≤ C.length ∧ (up = true → 0 ≤ j) ∧ (up = false → j < C.length) ∧ 1 ≤ q ∧ q ≤ k ∧ d ≤ C.length ∧ ((up = true → d ≤ j) ∧ (up = false → d + j < C.length)) ∧ Ext w w'' ∧ nthL C want other (walkI up C.length i) k 0 = nthL C want other (walkI up C.length j) q d) ∧
     (if up then ((C.length : Int) - s'.1).toNat else (s'.1 + 1).toNat) < (if up then ((C.length : Int) - ((m : Int), (q : Int), (d : Int), ()).1).toNat else (((m : Int), (q : Int), (d : Int), ()).1 + 1).toNat)) (IntKind.wrap .i64 ((m : Int) + (if up then 1 else -1)), (q' : Int), (d' : Int), ()) W' := by
   intro q' d' W' eW hq1 hq2 hd1 he
   rw [ews]
   refine ⟨⟨_, q', d', rfl, ?_, ?_, ?_, ?_, hq1, hq2, ?_, ?_, eW, he⟩, ?_⟩
   all_goals clear hK heq he step ews
   all_goals cases up
   all_goals simp at *
   all_goals omega
  refine join_r (fun x W' => ∃ q' d' : Nat, x = ((q' : Int), (d' : Int), ()) ∧ Ext w W' ∧ 1 ≤ q' ∧ q' ≤ k ∧ d' ≤ d + 1 ∧ nthL C want other (walkI up C.length i) k 0 = nthL C want other (walkI up C.length ((m : Int) + (if up then 1 else -1))) q' d') ?_ ?_
  ·refine ix_cel (hs.ext e1) hc fun p1 => is_call fun w2 e2 => ?_
   have e12 := e1.trans e2
   refine sif_r (fun ho => ?_) (fun ho => ?_)
   ·have ho : c.is other = true := ho
    rw [if_pos ho] at heq
    refine ⟨q, d + 1, ?_, e12, hq, hqk, Nat.le_refl _, heq⟩
    rw [wrap64 (by omega) (by omega)]; rfl
   have ho : c.is other = false := ho
   rw [if_neg (by rw [ho]; decide)] at heq
   refine ix_cel (hs.ext e12) hc fun p2 => is_call fun w3 e3 => ?_
   have e13 := e12.trans e3
   refine sif_r (fun hw => ?_) (fun hw => ?_)
   ·simp only [Bool.not_eq_true'] at hw
    rw [if_pos hw] at heq
    exact ⟨q, d, rfl, e13, hq, hqk, by omega, heq⟩
   simp only [Bool.not_eq_false'] at hw
   rw [if_neg (by rw [hw]; decide)] at heq
   refine sif_r (fun h0 => ?_) (fun h0 => ?_)
   ·simp only [decide_eq_true_eq, gt_iff_lt] at h0
    rw [if_pos (by omega)] at heq
    refine ⟨q, d - 1, ?_, e13, hq, hqk, by omega, heq⟩
    rw [wrap64 (by omega) (by omega)]
    congr 2; omega
   simp only [decide_eq_false_iff_not, gt_iff_lt] at h0
   rw [if_neg (by omega)] at heq
   have ewq : IntKind.wrap .i64 ((q : Int) - 1) = ((q - 1 : Nat) : Int) := by rw [wrap64 (by omega) (by omega)]; omega
   rw [ewq]
   refine sif_r (fun hz => ?_) (fun hz => ?_)
   ·simp only [beq_iff_eq] at hz
    rw [if_pos (by omega)] at heq
    have := hK w3 e13
    rw [heq] at this
    exact this
   ·simp only [beq_eq_false_iff_ne, ne_eq] at hz
    rw [if_neg (by omega)] at heq
    exact ⟨q - 1, d, rfl, e13, by omega, by omega, by omega, heq⟩
  ·rintro _ w4 ⟨q', d', rfl, e4, f1, f2, f3, f4⟩
   exact fin e4 f1 f2 f3 f4
 ·simp only [decide_eq_false_iff_not] at h
  rw [walkI_end up h g1 gu gd] at heq
  exact ⟨e1, heq⟩
end
section
variable {w w' : World} {S : Nat → Prop} {p : Nat} {e : Enc} {lim na : Nat} {O : Nat → Prop} {M : Parts}
theorem run_eqInt {n : Nat} {x y : Int} (w : World) : (Op.equalIn (n + 1) 3 (.int .i64 x) (.int .i64 y)).run Tryz.prog w = .ok (x == y) w := run_equalIn_int w n 3 .i64 .i64 x y i3_ok.und
theorem lnEql_r {a b : Ln} {o1 o2 : Operand} {K : Bool → World → Prop} (hK : K (decide (a = b)) w) :
  rdB Tryz.prog (do eqGuard .eql 100 o1 o2 (.agg (Cells.vals c100 (lnT a)).toArray) (.agg (Cells.vals c100 (lnT b)).toArray); binOp .eql 100 (.agg (Cells.vals c100 (lnT a)).toArray) (.agg (Cells.vals c100 (lnT b)).toArray) : Sem Value) K w := by
 refine ⟨decide (a = b), ?_, hK⟩
 have hg := run_eqGuard_agg (P := Tryz.prog) w .eql 100 o1 o2 (Cells.vals c100 (lnT a)).toArray (Cells.vals c100 (lnT b)).toArray (by kernel_rfl)
 have hq := run_eql_struct (P := Tryz.prog) w 100 (Cells.vals c100 (lnT a)).toArray (Cells.vals c100 (lnT b)).toArray
 have hs := run_equalIn_struct (P := Tryz.prog) w 9999 100 (Cells.vals c100 (lnT a)).toArray (Cells.vals c100 (lnT b)).toArray (by kernel_rfl) (by kernel_rfl)
 have hf : (Tryz.prog.fieldsOf 100).toList.map (fun f => (f.name, f.type, f.offset)) = [("From", 3, 0), ("To", 3, 1), ("Next", 3, 2), ("Break", 3, 3)] := by kernel_rfl
 have key : ∀ fs : List Field, fs.map (fun f => (f.name, f.type, f.offset)) = [("From", 3, 0), ("To", 3, 1), ("Next", 3, 2), ("Break", 3, 3)] → (Op.eqFields 9999 (Cells.vals c100 (lnT a)).toArray (Cells.vals c100 (lnT b)).toArray fs).run Tryz.prog w = .ok (decide (a = b)) w := by
  intro fs hfs
  have hl : fs.length = 4 := by simpa using congrArg List.length hfs
  obtain ⟨f1, f2, f3, f4, rfl⟩ : ∃ f1 f2 f3 f4, fs = [f1, f2, f3, f4] := by
   match fs, hl with
   | [f1, f2, f3, f4], _ => exact ⟨f1, f2, f3, f4, rfl⟩
  simp only [List.map_cons, List.map_nil, List.cons.injEq, Prod.mk.injEq, and_true] at hfs
  obtain ⟨⟨n1, t1, o1⟩, ⟨n2, t2, o2⟩, ⟨n3, t3, o3⟩, ⟨n4, t4, o4⟩⟩ := hfs
  have pt : ∀ (l : Ln) (i : Nat) (v : Int), (Cells.vals c100 (lnT l)).toArray[i]? = some (.int .i64 v) → (Go.part 3 (Cells.vals c100 (lnT l)).toArray i).run Tryz.prog w = .ok (.int .i64 v) w := by
   intro l i v hv
   have ha : (isAgg 3).run Tryz.prog w = .ok false w := i3_ok.run_isAgg w
   simp only [Go.part, Sem.run_bind, ha, Result.andThen_ok]
   simp [hv]
  have step : ∀ (f : Field) (fs : List Field) (x y : Nat), f.name ≠ "_" → f.type = 3 → (Cells.vals c100 (lnT a)).toArray[f.offset]? = some (.int .i64 (x : Int)) → (Cells.vals c100 (lnT b)).toArray[f.offset]? = some (.int .i64 (y : Int)) →
    (Op.eqFields 9999 (Cells.vals c100 (lnT a)).toArray (Cells.vals c100 (lnT b)).toArray (f :: fs)).run Tryz.prog w = if x = y then (Op.eqFields 9999 (Cells.vals c100 (lnT a)).toArray (Cells.vals c100 (lnT b)).toArray fs).run Tryz.prog w else .ok false w := by
   intro f fs x y hn ht hx hy
   rw [Op.eqFields, if_pos hn, ht]
   simp only [Sem.run_bind, pt a _ _ hx, pt b _ _ hy, Result.andThen_ok, run_eqInt (n := 9998)]
   by_cases hxy : x = y
   ·rw [if_pos hxy, hxy]; simp
   ·have : ((x : Int) == (y : Int)) = false := by rw [beq_eq_false_iff_ne]; omega
    rw [if_neg hxy, this]; rfl
  rw [step f1 _ a.from_ b.from_ (by rw [n1]; decide) t1 (by rw [o1]; rfl) (by rw [o1]; rfl), step f2 _ a.to_ b.to_ (by rw [n2]; decide) t2 (by rw [o2]; rfl) (by rw [o2]; rfl), step f3 _ a.next b.next (by rw [n3]; decide) t3 (by rw [o3]; rfl) (by rw [o3]; rfl), step f4 _ a.kind b.kind (by rw [n4]; decide) t4 (by rw [o4]; rfl) (by rw [o4]; rfl)]
  obtain ⟨x1, x2, x3, x4⟩ := a
  obtain ⟨y1, y2, y3, y4⟩ := b
  by_cases h1 : x1 = y1 <;> by_cases h2 : x2 = y2 <;> by_cases h3 : x3 = y3 <;> by_cases h4 : x4 = y4 <;> simp [h1, h2, h3, h4, Op.eqFields]
 rw [key _ hf] at hs
 simp only [Sem.run_bind, hg, Result.andThen_ok, hq, hs]
abbrev spT (s : Int × Int × Int) : Cells.T c34 := (s.1, s.2.1, s.2.2, ())
theorem lnI_nat (A : List Int) (n : Nat) : lnI A (n : Int) = lnAt A n := by unfold lnI; rw [if_neg (by omega), Int.toNat_natCast]
theorem line_call {at_ : Nat} (h : Txt w p e lim na O M) (hat : at_ ≤ (atoms (aOf e M)).length) {K : Cells.T c100 × Int × Unit → World → Prop} (hK : ∀ w', Ext w w' → K (lnT ((lnAt (atoms (aOf e M)) (nb (atoms (aOf e M)) at_)).getD ⟨0, 0, 0, 0⟩), 0, ()) w') :
  callT Tryz.prog 57 #[.pointer (some (at0 p)), .int .i64 (at_ : Int)] (.one (.one (.int .i64))) (fun i => callT Tryz.prog 71 #[.pointer (some (at0 p)), .int .i64 i] (.tup [(.agg c100), (.one (.int .i64))]) K) w := by
 have few := h.few; have lims := h.lims
 have hal := hal e M
 have hnl := nb_le (atoms (aOf e M)) at_
 refine lof_call h fun w1 e1 => lat_call (h.ext e1) (by rw [Int.toNat_natCast]; omega) fun w2 e2 => ?_
 rw [Int.toNat_natCast, lnI_nat]
 have := hK w2 (e1.trans e2)
 obtain ⟨l, hl, _⟩ := ln_of (atoms (aOf e M)) hat
 rw [hl] at this ⊢
 exact this
theorem hollow_call {one two : Cel} (h : Txt w p e lim na O M) (h1 : one.from_ ≤ (atoms (aOf e M)).length) (h2 : two.from_ ≤ (atoms (aOf e M)).length) {K : Cells.T c34 → World → Prop} (hK : ∀ w', Ext w w' → K (spT (Obx.hollow (atoms (aOf e M)) one two)) w') :
  callT Tryz.prog 44 #[.pointer (some (at0 p)), .agg (Cells.vals c72 (celT one)).toArray, .agg (Cells.vals c72 (celT two)).toArray] (.one (.agg c34)) K w := by
 refine F44_calls (a1 := celT one) (a2 := celT two) ?_
 unfold F44
 have few := h.few; have lims := h.lims
 have hal := hal e M
 generalize hA : atoms (aOf e M) = A at *
 unfold Obx.hollow at hK
 obtain ⟨a, ha⟩ : ∃ a, a = (lnAt A (nb A one.from_)).getD ⟨0, 0, 0, 0⟩ := ⟨_, rfl⟩
 obtain ⟨b, hb⟩ : ∃ b, b = (lnAt A (nb A two.from_)).getD ⟨0, 0, 0, 0⟩ := ⟨_, rfl⟩
 rw [← ha, ← hb] at hK
 dsimp only at hK
 have hbf : b.from_ ≤ two.from_ := by
  obtain ⟨l, hl, hf, _⟩ := ln_of A h2
  rw [hb, hl]; exact hf
 let z3 : Obj := .cells #[.int .i64 0, .int .i64 0, .int .i64 0] 34 (0, 0)
 let z4 : Obj := .cells #[.int .i64 0, .int .i64 0, .int .i64 0, .int .i64 0] 100 (0, 0)
 refine (St.start w).newO fun b1 w1 S1 e1 => S1.newO fun b2 w2 S2 e2 => S2.newO fun b3 w3 S3 e3 => ?_
 refine S3.ld 2 rfl (x := (one.to_ : Int)) rfl (S3.ld 1 rfl (x := (two.from_ : Int)) rfl (S3.newO fun b6 w6 S6 e6 => S6.aggSt 0 rfl rfl rfl rfl fun w7 S7 u7 => ?_))
 refine S7.ld 3 rfl (x := (one.from_ : Int)) rfl (line_call (h.ext S7.upd) (by rw [hA]; exact h1) fun w8 e8 => ?_)
 rw [hA, ← ha]
 refine (S7.ext e8).newO fun b10 w10 S10 e10 => S10.aggSt 0 rfl rfl rfl rfl fun w11 S11 u11 => ?_
 refine S11.ld 3 rfl (x := (two.from_ : Int)) rfl (line_call (h.ext S11.upd) (by rw [hA]; exact h2) fun w12 e12 => ?_)
 rw [hA, ← hb]
 refine (S11.ext e12).newO fun b14 w14 S14 e14 => S14.aggSt 0 rfl rfl rfl rfl fun w15 S15 u15 => ?_
 let Ls : List (Nat × Obj) := [(b14, .cells (Cells.vals c100 (lnT b)).toArray 100 (0, 0)), (b10, .cells (Cells.vals c100 (lnT a)).toArray 100 (0, 0)), (b6, .cells #[.int .i64 (one.to_ : Int), .int .i64 (two.from_ : Int), .int .i64 0] 34 (0, 0)), (b3, z3), (b2, .cells (Cells.vals c72 (celT two)).toArray 72 (0, 0)), (b1, .cells (Cells.vals c72 (celT one)).toArray 72 (0, 0))]
 have S15 : St (fun _ => False) w w15 Ls := S15
 have fin : ∀ {W : World} {s : Int × Int × Int}, St (fun _ => False) w W Ls → (∀ w', Ext w w' → K (spT s) w') → aggSt (at0 b3) (.agg #[.int .i64 s.1, .int .i64 s.2.1, .int .i64 s.2.2]) 3 (lds c34 (at0 b3) fun x => K x) W := fun {W s} SW hk =>
  SW.aggSt 3 rfl rfl rfl rfl fun w1 S1 _ => S1.lds 3 (spT s) rfl (hk w1 S1.upd)
 refine join_r (fun x W => x = (decide (a.to_ ≠ one.to_ ∨ a = b), ()) ∧ w15 = W) ?_ ?_
 ·refine S15.ld 1 rfl (x := (a.to_ : Int)) rfl (S15.ld 5 rfl (x := (one.to_ : Int)) rfl (sif_r (fun h => ⟨tupb ?_, rfl⟩) (fun h => S15.lds 1 (lnT a) rfl (S15.lds 0 (lnT b) rfl (lnEql_r ⟨tupb ?_, rfl⟩)))))
  all_goals simp only [bne_iff_ne, bne_eq_false_iff_eq, decide_eq_true_eq, true_iff, ne_eq] at *
  ·omega
  ·have : a.to_ = one.to_ := by omega
   simp [this]
 rintro _ _ ⟨rfl, rfl⟩
 refine sif_r (fun h3 => ?_) (fun h3 => ?_)
 ·simp only [decide_eq_true_eq] at h3
  rw [if_pos h3] at hK
  exact S15.lds 2 (spT (one.to_, two.from_, 0)) rfl (fin (s := (one.to_, two.from_, 0)) S15 hK)
 simp only [decide_eq_false_iff_not] at h3
 rw [if_neg h3] at hK
 refine join_r (fun _ W => St (fun _ => False) w W Ls ∧ (cels ((A.drop b.from_).take (two.from_ - b.from_)) b.from_).any (fun c => c.kind != 0) = false) ?_ ?_
 ·refine S15.drew fun w16 S16 e16 _ => S16.ld 0 rfl (x := (b.from_ : Int)) rfl (S16.ld 4 rfl (x := (two.from_ : Int)) rfl (S16.ld 0 rfl (x := (b.from_ : Int)) rfl ?_))
  refine atoms_call (h.ext S16.upd) fun s w17 o17 e17 => ?_
  have hsub : sub A (b.from_ : Int) (two.from_ : Int) = (A.drop b.from_).take (two.from_ - b.from_) := by unfold sub; simp
  rw [hA, hsub] at o17
  have S17 := S16.ext e17
  refine S17.keep 0 rfl (v := .int .i64 (b.from_ : Int)) rfl ?_
  refine cells_call o17.in (by rw [List.length_take, List.length_drop]; omega) (by omega) fun s2 w18 o18 e18 _ => ?_
  have S18 := S17.ext e18
  generalize hC : cels ((A.drop b.from_).take (two.from_ - b.from_)) b.from_ = C at *
  have hCl := o18.lenC
  have hCb : C.length < 2 ^ 40 := by
   have := cels_le ((A.drop b.from_).take (two.from_ - b.from_)) b.from_
   rw [hC, List.length_take, List.length_drop] at this; omega
  refine sloop_r (fun x W => ∃ i : Nat, i ≤ C.length ∧ x = ((i : Int), ()) ∧ St (fun _ => False) w W Ls ∧ Ext w18 W ∧ (C.take i).any (fun c => c.kind != 0) = false) (fun x _ => ((C.length : Int) - x.1).toNat) ⟨0, Nat.zero_le _, rfl, S18, Ext.refl _, rfl⟩ ?_
  rintro _ W ⟨i, hi, rfl, SW, eW, hno⟩
  refine sif_r (fun hc => ?_) (fun hc => ?_)
  ·simp only [decide_eq_true_eq] at hc
   obtain ⟨c, hc'⟩ : ∃ c, C[i]? = some c := ⟨_, List.getElem?_eq_getElem (by omega)⟩
   refine ix_cel (o18.ext eW) hc' fun q => SW.newO' fun b35 w20 S20 e20 hb35 => S20.aggSt 0 rfl rfl rfl rfl fun w21 S21 u21 => ?_
   refine S21.ld 0 rfl (x := (c.kind : Int)) rfl (sif_r (fun hk => ?_) (fun hk => ?_))
   ·simp only [bne_iff_ne, ne_eq] at hk
    have hany : C.any (fun c => c.kind != 0) = true := by
     rw [List.any_eq_true]
     exact ⟨c, List.mem_of_getElem? hc', by rw [bne_iff_ne]; omega⟩
    rw [if_pos hany] at hK
    exact S21.lds 3 (spT (one.to_, two.from_, 0)) rfl (fin (s := (one.to_, two.from_, 0)) S21.tail hK)
   ·simp only [bne_eq_false_iff_eq] at hk
    have ew : IntKind.wrap .i64 ((i : Int) + 1) = ((i + 1 : Nat) : Int) := by rw [wrap64 (by omega) (by omega)]; omega
    rw [ew]
    refine ⟨⟨i + 1, by omega, rfl, S21.tail, (eW.trans e20).step u21 (fun k hk => ?_), ?_⟩, by omega⟩
    ·have := eW.size; omega
    ·rw [List.take_add_one, hc', List.any_append, hno]
     have : c.kind = 0 := by omega
     simp [this]
  ·simp only [decide_eq_false_iff_not] at hc
   have : i = C.length := by omega
   subst this
   rw [List.take_length] at hno
   exact ⟨SW, hno⟩
 rintro _ W ⟨SW, hno⟩
 rw [if_neg (by rw [hno]; decide)] at hK
 refine SW.ld 1 rfl (x := (a.next : Int)) rfl (SW.ld 0 rfl (x := (b.from_ : Int)) rfl (sif_r (fun h4 => ?_) (fun h4 => ?_)))
 ·simp only [beq_iff_eq] at h4
  rw [if_pos (by omega)] at hK
  exact SW.ld 5 rfl (x := (one.to_ : Int)) rfl (SW.ld 5 rfl (x := (one.to_ : Int)) rfl (fin (s := (one.to_, one.to_, 0)) SW hK))
 ·simp only [beq_eq_false_iff_ne, ne_eq] at h4
  rw [if_neg (by omega)] at hK
  exact SW.ld 1 rfl (x := (a.next : Int)) rfl (SW.ld 0 rfl (x := (b.from_ : Int)) rfl (fin (s := (a.next, b.from_, 1)) SW hK))
end
section
variable {w w' : World} {S : Nat → Prop} {p : Nat} {e : Enc} {lim na : Nat} {O : Nat → Prop} {M : Parts}
theorem sub_all (A : List Int) : sub A 0 (A.length : Int) = A := by unfold sub; simp
theorem blocks_call {at_ kind count arg : Int} (h : Txt w p e lim na O M) (hcn : count < 2 ^ 63) {K : Cells.T c34 × Int × Unit → World → Prop} (hK : ∀ w', Ext w w' → K (spT (blocksP (atoms (aOf e M)) at_ kind count arg).1, (blocksP (atoms (aOf e M)) at_ kind count arg).2, ()) w') :
  callT Tryz.prog 19 #[.pointer (some (at0 p)), .int .i64 at_, .agg (Cells.vals c39 (mvT kind count arg)).toArray] (.tup [(.agg c34), (.one (.int .i64))]) K w := by
 refine F19_calls (a2 := mvT kind count arg) ?_
 unfold F19
 have few := h.few; have lims := h.lims
 have hal := hal e M
 generalize hA : atoms (aOf e M) = A at *
 unfold blocksP at hK
 rw [hal] at hK
 let Mv : Obj := .cells (Cells.vals c39 (mvT kind count arg)).toArray 39 (0, 0)
 let Z : Obj := .cells #[.int .i64 0, .int .i64 0, .int .i64 0] 34 (0, 0)
 refine (St.start w).newO fun b1 w1 S1 e1 => S1.newO fun b2 w2 S2 e2 => ?_
 have S2 : St (fun _ => False) w w2 [(b2, Z), (b1, Mv)] := S2
 have fin : ∀ {W : World} {s : Int × Int × Int} {n : Int}, St (fun _ => False) w W [(b2, Z), (b1, Mv)] → (∀ w', Ext w w' → K (spT s, n, ()) w') → aggSt (at0 b2) (.agg #[.int .i64 s.1, .int .i64 s.2.1, .int .i64 s.2.2]) 3 (lds c34 (at0 b2) fun x => K (x, n, ())) W := fun {W s n} SW hk =>
  SW.aggSt 0 rfl rfl rfl rfl fun w1 S1 _ => S1.lds 0 (spT s) rfl (hk w1 S1.upd)
 refine S2.lds 1 (mvT kind count arg) rfl (checked_call (h.ext S2.upd) fun w3 e3 => ?_)
 have S3 := S2.ext e3
 refine S3.ld 1 rfl (x := arg) rfl (fellow_call fun w4 e4 => ?_)
 have S4 := S3.ext e4
 generalize hck : checked (aOf e M).length at_ kind count 67 68 = ck at *
 refine join_r (fun x W => x = (decide (ck = 1 ∨ fellow arg = none), ()) ∧ w4 = W) ?_ ?_
 ·refine sif_r (fun h => ⟨tupb ?_, rfl⟩) (fun h => ⟨tupb ?_, rfl⟩)
  ·simp only [beq_iff_eq, decide_eq_true_eq, true_iff] at *; exact .inl h
  ·simp only [beq_eq_false_iff_ne, decide_eq_true_eq, ne_eq] at *
   cases fellow arg <;> simp [h]
 rintro _ _ ⟨rfl, rfl⟩
 refine sif_r (fun hc => ?_) (fun hc => ?_)
 ·simp only [decide_eq_true_eq] at hc
  refine fin (s := (0, 0, 0)) (n := 1) S4 fun w' x => ?_
  have := hK w' x
  by_cases h1 : ck = 1
  ·rw [if_pos h1] at this; exact this
  ·rw [if_neg h1, hc.resolve_left h1] at this; exact this
 simp only [decide_eq_false_iff_not, not_or] at hc
 obtain ⟨shut, hsh⟩ : ∃ shut, fellow arg = some shut := by
  cases hf : fellow arg with
  | none => exact absurd hf hc.2
  | some s => exact ⟨s, rfl⟩
 rw [if_neg hc.1, hsh] at hK
 rw [hsh]
 simp only [Option.getD_some, Option.isSome_some]
 dsimp only at hK
 refine sif_r (fun h0 => ?_) (fun h0 => ?_)
 ·simp only [bne_iff_ne, ne_eq] at h0
  rw [if_pos h0] at hK
  exact fin (s := (0, 0, 0)) (n := ck) S4 hK
 simp only [bne_eq_false_iff_eq] at h0
 rw [if_neg (by rw [h0]; decide)] at hK
 refine len_call (h.ext S4.upd) fun w5 e5 => atoms_call (h.ext (S4.ext e5).upd) fun s w6 o6 e6 => ?_
 rw [hA, ← hal, sub_all] at o6
 refine cells_call (off := 0) o6.in (by omega) (by decide) fun sc w7 o7 e7 _ => ?_
 have S7 := ((S4.ext e5).ext e6).ext e7
 have hCle : (cels A 0).length ≤ A.length := cels_le A 0
 have hcel : ∀ {m : Nat} {c : Cel}, (cels A 0)[m]? = some c → c.from_ ≤ A.length := fun hc => by
  obtain ⟨i, j, _, _, h1, h2, h3, _⟩ := (cels_ok hc).ex
  omega
 generalize hC : cels A 0 = C at *
 have hlen := o7.lenC
 unfold bracketsP at hK
 refine join_r (fun x W => x = (((firstI C at_ : Nat) : Int), ()) ∧ w7 = W) ?_ ?_
 ·refine sloop_r (fun x W => ∃ i : Nat, i ≤ C.length ∧ x = ((i : Int), ()) ∧ w7 = W ∧ ∀ (j : Nat) (c : Cel), j < i → C[j]? = some c → (c.to_ : Int) ≤ at_) (fun x _ => ((C.length : Int) - x.1).toNat) ⟨0, Nat.zero_le _, rfl, rfl, fun j c hj => absurd hj (Nat.not_lt_zero _)⟩ ?_
  rintro _ _ ⟨i, hi, rfl, rfl, hlo⟩
  by_cases hil : i < C.length
  ·obtain ⟨c, hc'⟩ : ∃ c, C[i]? = some c := ⟨_, List.getElem?_eq_getElem hil⟩
   refine join_r (fun x W => x = (decide ((c.to_ : Int) ≤ at_), ()) ∧ w7 = W) ?_ ?_
   ·exact sif_r (fun h => ix_celF (k := .int .i64) o7 hc' (y := (c.to_ : Int)) rfl fun q => ⟨tupb (by simp only [decide_eq_true_eq, ge_iff_le]), rfl⟩) (fun h => by simp only [decide_eq_false_iff_not] at h; omega)
   rintro _ _ ⟨rfl, rfl⟩
   refine sif_r (fun hg => ?_) (fun hg => ?_)
   ·simp only [decide_eq_true_eq] at hg
    have ew : IntKind.wrap .i64 ((i : Int) + 1) = ((i + 1 : Nat) : Int) := by rw [wrap64 (by omega) (by omega)]; omega
    rw [ew]
    refine ⟨⟨i + 1, by omega, rfl, rfl, fun j d hj hd => ?_⟩, by omega⟩
    by_cases hji : j = i
    ·subst hji; rw [hc'] at hd; cases hd; exact hg
    ·exact hlo j d (by omega) hd
   ·simp only [decide_eq_false_iff_not] at hg
    refine ⟨?_, rfl⟩
    rw [firstI_eq hi hlo fun d hd => by rw [hc'] at hd; cases hd; omega]
  ·refine join_r (fun x W => x = (false, ()) ∧ w7 = W) (sif_r (fun h => by simp only [decide_eq_true_eq] at h; omega) (fun _ => ⟨rfl, rfl⟩)) ?_
   rintro _ _ ⟨rfl, rfl⟩
   refine sif_false ⟨?_, rfl⟩
   have : i = C.length := by omega
   rw [firstI_eq hi hlo fun d hd => by rw [this, List.getElem?_eq_none (Nat.le_refl _)] at hd; cases hd]
 rintro _ _ ⟨rfl, rfl⟩
 have hfl := firstI_le C at_
 generalize hi : firstI C at_ = i at *
 refine join_r (fun x W => x = (decide (i = C.length ∨ C.length < times count), ()) ∧ St (fun _ => False) w W [(b2, Z), (b1, Mv)] ∧ Ext w7 W) ?_ ?_
 ·refine sif_r (fun h => ⟨tupb ?_, S7, Ext.refl _⟩) (fun h => S7.lds 1 (mvT kind count arg) rfl (times_call hcn fun w8 e8 => ⟨tupb ?_, S7.ext e8, e8⟩))
  all_goals simp only [beq_iff_eq, beq_eq_false_iff_ne, ne_eq, decide_eq_true_eq, true_iff, gt_iff_lt] at *
  all_goals omega
 rintro _ w8 ⟨rfl, S8, e8⟩
 refine sif_r (fun hb => ?_) (fun hb => ?_)
 ·simp only [decide_eq_true_eq] at hb
  rw [if_pos hb] at hK
  exact fin (s := (0, 0, 0)) (n := 90) S8 hK
 simp only [decide_eq_false_iff_not] at hb
 rw [if_neg hb] at hK
 have ht1 : 1 ≤ times count := by unfold times; omega
 obtain ⟨c, hc'⟩ : ∃ c, C[i]? = some c := ⟨_, List.getElem?_eq_getElem (by omega)⟩
 rw [hc'] at hK
 have ewp : IntKind.wrap .i64 ((i : Int) + 1) = (i : Int) + 1 := wrap64 (by omega) (by omega)
 have ewm : IntKind.wrap .i64 ((i : Int) - 1) = (i : Int) - 1 := wrap64 (by omega) (by omega)
 simp only [Option.map_some, Option.getD_some] at hK
 refine join_r (fun x W => x = ((if c.is arg then (i : Int) else (i : Int) - 1), (if c.is arg then (i : Int) + 1 else (i : Int)), ()) ∧ St (fun _ => False) w W [(b2, Z), (b1, Mv)] ∧ Ext w7 W) ?_ ?_
 ·refine S8.drew fun w9 S9 e9 _ => ix_cel (o7.ext (e8.trans e9)) hc' fun q => S9.ld 1 rfl (x := arg) rfl (is_call fun w10 e10 => ?_)
  rw [ewp, ewm]
  refine sif_r (fun h => ⟨?_, S9.ext e10, (e8.trans e9).trans e10⟩) (fun h => ⟨?_, S9.ext e10, (e8.trans e9).trans e10⟩)
  ·rw [h, if_pos rfl, if_pos rfl]
  ·rw [h, if_neg (by decide), if_neg (by decide)]
 rintro _ w9 ⟨rfl, S9, e9⟩
 dsimp only
 refine S9.drew fun w10 S10 e10 _ => S10.ld 1 rfl (x := arg) rfl (S10.lds 1 (mvT kind count arg) rfl (times_call hcn fun w11 e11 => ?_))
 have S11 := S10.ext e11
 have x11 := (e9.trans e10).trans e11
 have hl1 : -1 ≤ (if c.is arg then (i : Int) else (i : Int) - 1) ∧ (if c.is arg then (i : Int) else (i : Int) - 1) < C.length := by split <;> omega
 have hr1 : 0 ≤ (if c.is arg then (i : Int) + 1 else (i : Int)) ∧ (if c.is arg then (i : Int) + 1 else (i : Int)) ≤ C.length := by split <;> omega
 refine S11.keep 1 rfl (v := .int .i64 arg) rfl ?_
 refine nth_call (k := times count) false (o7.ext x11) (by omega) hl1.1 (by omega) (fun h => by cases h) (fun _ => hl1.2) ht1 (by omega) fun w12 e12 => ?_
 have S12 := S11.ext e12
 refine S12.drew fun w13 S13 e13 _ => S13.ld 1 rfl (x := arg) rfl (S13.lds 1 (mvT kind count arg) rfl (times_call hcn fun w14 e14 => ?_))
 have S14 := S13.ext e14
 have x14 := ((x11.trans e12).trans e13).trans e14
 refine S14.keep 1 rfl (v := .int .i64 arg) rfl ?_
 refine nth_call (k := times count) true (o7.ext x14) (by omega) (by omega) hr1.2 (fun _ => hr1.1) (fun h => by cases h) ht1 (by omega) fun w15 e15 => ?_
 have S15 := S14.ext e15
 have x15 := x14.trans e15
 generalize hn1 : nthL C arg shut (walkI false C.length (if c.is arg then (i : Int) else (i : Int) - 1)) (times count) 0 = n1 at *
 generalize hn2 : nthL C shut arg (walkI true C.length (if c.is arg then (i : Int) + 1 else (i : Int))) (times count) 0 = n2 at *
 refine join_r (fun x W => x = (decide (n1 = none ∨ n2 = none), ()) ∧ w15 = W) ?_ ?_
 ·cases n1 with
  | none => exact sif_r (fun h => ⟨tupb (by simp), rfl⟩) (fun h => by simp [oI] at h)
  | some j1 =>
   refine sif_r (fun h => absurd (of_decide_eq_true h) (Int.not_lt.2 (Int.natCast_nonneg j1))) (fun h => ⟨?_, rfl⟩)
   cases n2 with
   | none => exact tupb (by simp [oI])
   | some j2 =>
    refine tupb ?_
    simp only [decide_eq_true_eq, reduceCtorEq, or_self, iff_false, oI, Int.not_lt]
    exact fun h => absurd (of_decide_eq_true h) (Int.not_lt.2 (Int.natCast_nonneg j2))
 rintro _ _ ⟨rfl, rfl⟩
 refine sif_r (fun hd => ?_) (fun hd => ?_)
 ·simp only [decide_eq_true_eq] at hd
  have e0 : pick C n1 n2 = none := by
   rcases hd with rfl | rfl
   ·rfl
   ·cases n1 <;> rfl
  rw [e0] at hK
  exact fin (s := (0, 0, 0)) (n := 90) S15 hK
 simp only [decide_eq_false_iff_not, not_or] at hd
 obtain ⟨j1, rfl⟩ : ∃ j, n1 = some j := by cases n1 with
  | none => exact absurd rfl hd.1
  | some j => exact ⟨j, rfl⟩
 obtain ⟨j2, rfl⟩ : ∃ j, n2 = some j := by cases n2 with
  | none => exact absurd rfl hd.2
  | some j => exact ⟨j, rfl⟩
 obtain ⟨_, c1, hc1, _⟩ := nthL_mem hn1
 obtain ⟨_, c2, hc2, _⟩ := nthL_mem hn2
 have e0 : pick C (some j1) (some j2) = some (c1, c2) := by unfold pick; dsimp only; rw [hc1, hc2]
 rw [e0] at hK
 dsimp only [oI] at hK ⊢
 refine S15.ld 1 rfl (x := kind) rfl (sif_r (fun hk => ?_) (fun hk => ?_))
 ·simp only [beq_iff_eq] at hk
  rw [if_pos hk] at hK
  refine S15.drew fun w16 S16 e16 _ => ix_cel (o7.ext (x15.trans e16)) hc1 fun q1 => ix_cel (o7.ext (x15.trans e16)) hc2 fun q2 => ?_
  refine hollow_call (one := c1) (two := c2) (h.ext S16.upd) (by rw [hA]; exact hcel hc1) (by rw [hA]; exact hcel hc2) fun w17 e17 => ?_
  rw [hA]
  exact fin (s := Obx.hollow A c1 c2) (n := 0) (S16.ext e17) hK
 ·simp only [beq_eq_false_iff_ne, ne_eq] at hk
  rw [if_neg hk] at hK
  refine S15.drew fun w16 S16 e16 _ => ix_celF0 (k := .int .i64) (o7.ext (x15.trans e16)) hc1 (y := (c1.from_ : Int)) rfl fun q1 => ix_celF (k := .int .i64) (o7.ext (x15.trans e16)) hc2 (y := (c2.to_ : Int)) rfl fun q2 => ?_
  exact fin (s := (c1.from_, c2.to_, 0)) (n := 0) S16 hK
end
end Go.Proofs.YtabcpghhfeplaaaGreat
namespace Go.Proofs.YtabcpghhfeplaaaGreat
open Go Go.Vx Cdc
section
variable {w w' : World}
theorem known_call {e : Enc} {K : Bool → World → Prop} (hK : K true w) : callT Tryz.prog 61 #[.int .i64 e.num] (.one (.one .bool)) K w := by
 refine F61_calls ?_
 unfold F61
 cases e <;> exact sif_r (fun _ => hK) (fun h => by cases h)
theorem rscalar_call {a : Int} {K : Bool → World → Prop} (h1 : Scalar a → K true w) (h2 : ¬ Scalar a → K false w) : callT Tryz.prog 117 #[.int .i64 a] (.one (.one .bool)) K w := by
 refine F117_calls ?_
 unfold F117
 unfold Scalar at h1 h2
 refine sif_r (fun h => sif_r (fun h' => ?_) (fun h' => sif_r (fun h'' => ?_) (fun h'' => ?_))) (fun h => sif_r (fun h'' => ?_) (fun h'' => ?_))
 all_goals simp only [decide_eq_true_eq, decide_eq_false_iff_not, gt_iff_lt, ge_iff_le] at *
 ·exact h1 (by omega)
 ·by_cases hc : a ≤ 1114111
  ·rw [decide_eq_true hc]; exact h1 (by omega)
  ·rw [decide_eq_false hc]; exact h2 (by omega)
 ·exact h2 (by omega)
 ·by_cases hc : a ≤ 1114111
  ·rw [decide_eq_true hc]; exact h1 (by omega)
  ·rw [decide_eq_false hc]; exact h2 (by omega)
 ·exact h2 (by omega)
def unI (be : Bool) : Bs → Int
 | a :: b :: _ => ((un be a b : Nat) : Int)
 | _ => -1
theorem runit_call {s : Sl} {l : Bs} {n : Nat} {be : Bool} (hB : By w s l) (hn : n < 2 ^ 60) (hl : l.length < 2 ^ 60) {K : Int → World → Prop} (hK : ∀ w', Ext w w' → K (unI be (l.drop n)) w') :
  callT Tryz.prog 84 #[.int .i64 (if be then 3 else 2), .slice s.a s.len s.cap, .int .i64 (n : Int)] (.one (.one (.int .i64))) K w := by
 refine F84_calls ?_
 unfold F84
 have hlen := hB.len
 have e2 : IntKind.wrap .i64 ((n : Int) + 2) = (n : Int) + 2 := wrap64 (by omega) (by omega)
 have e1 : IntKind.wrap .i64 ((n : Int) + 1) = ((n + 1 : Nat) : Int) := by rw [wrap64 (by omega) (by omega)]; omega
 rw [e2, e1]
 refine sif_r (fun h => ?_) (fun h => ?_)
 ·simp only [decide_eq_true_eq, gt_iff_lt] at h
  have := hK w (Ext.refl w)
  have hd : (l.drop n).length < 2 := by rw [List.length_drop]; omega
  match hdd : l.drop n, hd with
  | [], _ => rw [hdd] at this; exact this
  | [_], _ => rw [hdd] at this; exact this
  | _ :: _ :: _, hd => simp at hd; omega
 ·simp only [decide_eq_false_iff_not, gt_iff_lt] at h
  have h0 : n < l.length := by omega
  have h1 : n + 1 < l.length := by omega
  have hd : l.drop n = l[n] :: l[n + 1] :: l.drop (n + 2) := by
   rw [List.drop_eq_getElem_cons h0, List.drop_eq_getElem_cons h1]
  have ha := l[n].toNat_lt
  have hb := l[n + 1].toNat_lt
  rw [hd] at hK
  have g0 : l[(n : Int).toNat]? = some l[n] := by rw [Int.toNat_natCast]; simp [h0]
  have g1 : l[((n + 1 : Nat) : Int).toNat]? = some l[n + 1] := by rw [Int.toNat_natCast]; simp [h1]
  cases be with
  | false =>
   refine sif_r (fun _ => drew_r fun w1 e3 _ => ?_) (fun h => by cases h)
   have hB1 : By w1 s l := hB.ext e3
   refine ix_by hB1 (by omega) g0 fun p => ix_by hB1 (by omega) g1 fun p => ?_
   rw [wrap64 (a := (l[n].toNat : Int)) (by omega) (by omega), wrap64 (a := (l[n + 1].toNat : Int)) (by omega) (by omega), wrap64 (a := 256 * (l[n + 1].toNat : Int)) (by omega) (by omega), wrap64 (by omega) (by omega)]
   have : (l[n].toNat : Int) + 256 * (l[n + 1].toNat : Int) = unI false (l[n] :: l[n + 1] :: l.drop (n + 2)) := by
    show _ = ((l[n].toNat + l[n + 1].toNat * 256 : Nat) : Int); omega
   rw [this]; exact hK w1 e3
  | true =>
   refine sif_r (fun h => by cases h) (fun _ => drew_r fun w1 e3 _ => ?_)
   have hB1 : By w1 s l := hB.ext e3
   refine ix_by hB1 (by omega) g0 fun p => ix_by hB1 (by omega) g1 fun p => ?_
   rw [wrap64 (a := (l[n].toNat : Int)) (by omega) (by omega), wrap64 (a := (l[n + 1].toNat : Int)) (by omega) (by omega), wrap64 (a := 256 * (l[n].toNat : Int)) (by omega) (by omega), wrap64 (by omega) (by omega)]
   have : 256 * (l[n].toNat : Int) + (l[n + 1].toNat : Int) = unI true (l[n] :: l[n + 1] :: l.drop (n + 2)) := by
    show _ = ((l[n + 1].toNat + l[n].toNat * 256 : Nat) : Int); omega
   rw [this]; exact hK w1 e3
end
end Go.Proofs.YtabcpghhfeplaaaGreat
namespace Go.Proofs.YtabcpghhfeplaaaGreat
namespace Cdc
theorem ofNat_toNat (b : UInt8) : UInt8.ofNat b.toNat = b := by
 apply UInt8.toNat_inj.1
 rw [UInt8.toNat_ofNat']
 have := b.toNat_lt
 omega
theorem byte_of {n : Nat} {b : UInt8} (h : n = b.toNat) : UInt8.ofNat n = b := by rw [h, ofNat_toNat]
theorem sz8_nat {n : Nat} (h : Scalar (n : Int)) : sz8 (n : Int) = if n < 128 then 1 else if n < 2048 then 2 else if n < 65536 then 3 else 4 := by
 unfold sz8
 rw [if_neg (by rcases h with h | h <;> omega)]
 repeat' split
 all_goals first | rfl | omega
theorem pt8_1 {n : Nat} (h : n < 128) : pt8 (n : Int) = [UInt8.ofNat n] := by
 have hs : sz8 (n : Int) = 1 := by rw [sz8_nat (.inl (by omega)), if_pos h]
 unfold pt8
 rw [if_neg (by omega), if_pos hs, Int.toNat_natCast]
theorem pt8_2 {n : Nat} (h0 : 128 ≤ n) (h : n < 2048) : pt8 (n : Int) = [UInt8.ofNat (192 + n / 64), UInt8.ofNat (128 + n % 64)] := by
 have hs : sz8 (n : Int) = 2 := by rw [sz8_nat (.inl (by omega)), if_neg (by omega), if_pos h]
 unfold pt8
 rw [if_neg (by omega), hs, if_neg (by decide), Int.toNat_natCast]
 show [UInt8.ofNat (192 + n / 64), UInt8.ofNat (128 + n / 1 % 64)] = _
 rw [Nat.div_one]
theorem pt8_3 {n : Nat} (hs : Scalar (n : Int)) (h0 : 2048 ≤ n) (h : n < 65536) : pt8 (n : Int) = [UInt8.ofNat (224 + n / 4096), UInt8.ofNat (128 + n / 64 % 64), UInt8.ofNat (128 + n % 64)] := by
 have hs : sz8 (n : Int) = 3 := by rw [sz8_nat hs, if_neg (by omega), if_neg (by omega), if_pos h]
 unfold pt8
 rw [if_neg (by omega), hs, if_neg (by decide), Int.toNat_natCast]
 show [UInt8.ofNat (224 + n / 4096), UInt8.ofNat (128 + n / 64 % 64), UInt8.ofNat (128 + n / 1 % 64)] = _
 rw [Nat.div_one]
theorem pt8_4 {n : Nat} (h0 : 65536 ≤ n) (h : n < 1114112) : pt8 (n : Int) = [UInt8.ofNat (240 + n / 262144), UInt8.ofNat (128 + n / 4096 % 64), UInt8.ofNat (128 + n / 64 % 64), UInt8.ofNat (128 + n % 64)] := by
 have hs : sz8 (n : Int) = 4 := by rw [sz8_nat (.inr (by omega)), if_neg (by omega), if_neg (by omega), if_neg (by omega)]
 unfold pt8
 rw [if_neg (by omega), hs, if_neg (by decide), Int.toNat_natCast]
 show [UInt8.ofNat (240 + n / 262144), UInt8.ofNat (128 + n / 4096 % 64), UInt8.ofNat (128 + n / 64 % 64), UInt8.ofNat (128 + n / 1 % 64)] = _
 rw [Nat.div_one]
theorem cont_iff (c : UInt8) : cont c = true ↔ 128 ≤ c.toNat ∧ c.toNat < 192 := by
 unfold cont; simp; omega
theorem nx8_back {b : UInt8} {r : Bs} (h : 0 ≤ (nx8 (b :: r)).1) : Scalar (nx8 (b :: r)).1 ∧ pt8 (nx8 (b :: r)).1 = (b :: r).take (nx8 (b :: r)).2 ∧ sz8 (nx8 (b :: r)).1 = (nx8 (b :: r)).2 := by
 have hb := b.toNat_lt
 have h2 := rowOf_bnds b r
 simp only [nx8] at h ⊢
 by_cases hc : (rowOf (b :: r)).2 = 0 ∨ (rowOf (b :: r)).1 < (rowOf (b :: r)).2
 ·rw [if_pos hc] at h
  have : (0 : Int) ≤ -1 - (b.toNat : Int) := h
  omega
 rw [if_neg hc] at h ⊢
 obtain ⟨hn0, hle⟩ : ¬ (rowOf (b :: r)).2 = 0 ∧ ¬ (rowOf (b :: r)).1 < (rowOf (b :: r)).2 := ⟨fun h => hc (.inl h), fun h => hc (.inr h)⟩
 clear hc
 have two : ∀ {lo hi k : Nat}, bnds b.toNat = (k + 2, lo, hi) → ∃ c r', r = c :: r' ∧ lo ≤ c.toNat ∧ c.toNat ≤ hi ∧ k ≤ more k r' ∧ (rowOf (b :: r)).2 = k + 2 := by
  intro lo hi k hk
  rw [h2, hk] at hle
  cases r with
  | nil =>
   have e : rowOf [b] = (1, k + 2) := by simp only [rowOf, hk]; rw [if_neg (by omega)]
   rw [e] at hle; simp at hle
  | cons c r' =>
   have e : rowOf (b :: c :: r') = if c.toNat < lo ∨ hi < c.toNat then (1, k + 2) else (2 + more k r', k + 2) := by simp only [rowOf, hk]; rw [if_neg (by omega)]; rfl
   rw [e] at hle
   dsimp only at hle
   by_cases hcc : c.toNat < lo ∨ hi < c.toNat
   ·rw [if_pos hcc] at hle; simp at hle
   ·rw [if_neg hcc] at hle
    simp only at hle
    exact ⟨c, r', rfl, by omega, by omega, by omega, by rw [h2, hk]⟩
 have more1 : ∀ {r : Bs}, 1 ≤ more 1 r → ∃ d r', r = d :: r' ∧ 128 ≤ d.toNat ∧ d.toNat < 192 := by
  intro r hr
  cases r with
  | nil => simp [more] at hr
  | cons d r' =>
   by_cases hd : cont d = true
   ·exact ⟨d, r', rfl, (cont_iff d).1 hd⟩
   ·simp [more, hd] at hr
 have more2 : ∀ {r : Bs}, 2 ≤ more 2 r → ∃ d e r', r = d :: e :: r' ∧ 128 ≤ d.toNat ∧ d.toNat < 192 ∧ 128 ≤ e.toNat ∧ e.toNat < 192 := by
  intro r hr
  cases r with
  | nil => simp [more] at hr
  | cons d r' =>
   by_cases hd : cont d = true
   ·have hr' : 1 ≤ more 1 r' := by
     have e2 : more 2 (d :: r') = more 1 r' + 1 := by show (if cont d then more 1 r' + 1 else 0) = _; rw [if_pos hd]
     omega
    obtain ⟨e, r'', rfl, h1⟩ := more1 hr'
    exact ⟨d, e, r'', rfl, ((cont_iff d).1 hd).1, ((cont_iff d).1 hd).2, h1⟩
   ·simp [more, hd] at hr
 have fin2 : ∀ {lo hi : Nat}, bnds b.toNat = (2, lo, hi) → 194 ≤ b.toNat → b.toNat < 224 → 128 ≤ lo → hi ≤ 191 →
   Scalar ((rest (lead (rowOf (b :: r)).2 b.toNat) (r.take ((rowOf (b :: r)).2 - 1)) : Nat) : Int) ∧ pt8 ((rest (lead (rowOf (b :: r)).2 b.toNat) (r.take ((rowOf (b :: r)).2 - 1)) : Nat) : Int) = (b :: r).take (rowOf (b :: r)).2 ∧ sz8 ((rest (lead (rowOf (b :: r)).2 b.toNat) (r.take ((rowOf (b :: r)).2 - 1)) : Nat) : Int) = (rowOf (b :: r)).2 := by
  intro lo hi hk g1 g2 g3 g4
  obtain ⟨c, r', rfl, c1, c2, _, hn⟩ := two (k := 0) hk
  rw [hn]
  show Scalar (((b.toNat % 32 * 64 + c.toNat % 64 : Nat)) : Int) ∧ pt8 (((b.toNat % 32 * 64 + c.toNat % 64 : Nat)) : Int) = [b, c] ∧ sz8 (((b.toNat % 32 * 64 + c.toNat % 64 : Nat)) : Int) = 2
  have hS : Scalar (((b.toNat % 32 * 64 + c.toNat % 64 : Nat)) : Int) := .inl (by omega)
  refine ⟨hS, ?_, ?_⟩
  ·rw [pt8_2 (by omega) (by omega), byte_of (b := b) (by omega), byte_of (b := c) (by omega)]
  ·rw [sz8_nat hS, if_neg (by omega), if_pos (by omega)]
 have fin3 : ∀ {lo hi : Nat}, bnds b.toNat = (3, lo, hi) → 224 ≤ b.toNat → b.toNat < 240 → 128 ≤ lo → hi ≤ 191 → (b.toNat = 224 → 160 ≤ lo) → (b.toNat = 237 → hi ≤ 159) →
   Scalar ((rest (lead (rowOf (b :: r)).2 b.toNat) (r.take ((rowOf (b :: r)).2 - 1)) : Nat) : Int) ∧ pt8 ((rest (lead (rowOf (b :: r)).2 b.toNat) (r.take ((rowOf (b :: r)).2 - 1)) : Nat) : Int) = (b :: r).take (rowOf (b :: r)).2 ∧ sz8 ((rest (lead (rowOf (b :: r)).2 b.toNat) (r.take ((rowOf (b :: r)).2 - 1)) : Nat) : Int) = (rowOf (b :: r)).2 := by
  intro lo hi hk g1 g2 g3 g4 g5 g6
  obtain ⟨c, r', rfl, c1, c2, hm, hn⟩ := two (k := 1) hk
  obtain ⟨d, r'', rfl, d1, d2⟩ := more1 hm
  rw [hn]
  show Scalar ((((b.toNat % 16 * 64 + c.toNat % 64) * 64 + d.toNat % 64 : Nat)) : Int) ∧ pt8 ((((b.toNat % 16 * 64 + c.toNat % 64) * 64 + d.toNat % 64 : Nat)) : Int) = [b, c, d] ∧ sz8 ((((b.toNat % 16 * 64 + c.toNat % 64) * 64 + d.toNat % 64 : Nat)) : Int) = 3
  have hS : Scalar ((((b.toNat % 16 * 64 + c.toNat % 64) * 64 + d.toNat % 64 : Nat)) : Int) := by
   unfold Scalar
   by_cases h7 : b.toNat = 237
   ·have := g6 h7; omega
   ·omega
  have hlow : 2048 ≤ (b.toNat % 16 * 64 + c.toNat % 64) * 64 + d.toNat % 64 := by
   by_cases h4 : b.toNat = 224
   ·have := g5 h4; omega
   ·omega
  refine ⟨hS, ?_, ?_⟩
  ·rw [pt8_3 hS hlow (by omega), byte_of (b := b) (by omega), byte_of (b := c) (by omega), byte_of (b := d) (by omega)]
  ·rw [sz8_nat hS, if_neg (by omega), if_neg (by omega), if_pos (by omega)]
 have fin4 : ∀ {lo hi : Nat}, bnds b.toNat = (4, lo, hi) → 240 ≤ b.toNat → b.toNat < 245 → 128 ≤ lo → hi ≤ 191 → (b.toNat = 240 → 144 ≤ lo) → (b.toNat = 244 → hi ≤ 143) →
   Scalar ((rest (lead (rowOf (b :: r)).2 b.toNat) (r.take ((rowOf (b :: r)).2 - 1)) : Nat) : Int) ∧ pt8 ((rest (lead (rowOf (b :: r)).2 b.toNat) (r.take ((rowOf (b :: r)).2 - 1)) : Nat) : Int) = (b :: r).take (rowOf (b :: r)).2 ∧ sz8 ((rest (lead (rowOf (b :: r)).2 b.toNat) (r.take ((rowOf (b :: r)).2 - 1)) : Nat) : Int) = (rowOf (b :: r)).2 := by
  intro lo hi hk g1 g2 g3 g4 g5 g6
  obtain ⟨c, r', rfl, c1, c2, hm, hn⟩ := two (k := 2) hk
  obtain ⟨d, e, r'', rfl, d1, d2, e1, e2⟩ := more2 hm
  rw [hn]
  show Scalar (((((b.toNat % 8 * 64 + c.toNat % 64) * 64 + d.toNat % 64) * 64 + e.toNat % 64 : Nat)) : Int) ∧ pt8 (((((b.toNat % 8 * 64 + c.toNat % 64) * 64 + d.toNat % 64) * 64 + e.toNat % 64 : Nat)) : Int) = [b, c, d, e] ∧ sz8 (((((b.toNat % 8 * 64 + c.toNat % 64) * 64 + d.toNat % 64) * 64 + e.toNat % 64 : Nat)) : Int) = 4
  have hlow : 65536 ≤ ((b.toNat % 8 * 64 + c.toNat % 64) * 64 + d.toNat % 64) * 64 + e.toNat % 64 := by
   by_cases h4 : b.toNat = 240
   ·have := g5 h4; omega
   ·omega
  have hhigh : ((b.toNat % 8 * 64 + c.toNat % 64) * 64 + d.toNat % 64) * 64 + e.toNat % 64 < 1114112 := by
   by_cases h4 : b.toNat = 244
   ·have := g6 h4; omega
   ·omega
  have hS : Scalar (((((b.toNat % 8 * 64 + c.toNat % 64) * 64 + d.toNat % 64) * 64 + e.toNat % 64 : Nat)) : Int) := .inr (by omega)
  refine ⟨hS, ?_, ?_⟩
  ·rw [pt8_4 hlow hhigh, byte_of (b := b) (by omega), byte_of (b := c) (by omega), byte_of (b := d) (by omega), byte_of (b := e) (by omega)]
  ·rw [sz8_nat hS, if_neg (by omega), if_neg (by omega), if_neg (by omega)]
 by_cases k1 : b.toNat < 128
 ·have hk : bnds b.toNat = (1, 0, 0) := by unfold bnds; rw [if_pos k1]
  have hn : (rowOf (b :: r)).2 = 1 := by rw [h2, hk]
  rw [hn]
  show Scalar ((b.toNat : Nat) : Int) ∧ pt8 ((b.toNat : Nat) : Int) = [b] ∧ sz8 ((b.toNat : Nat) : Int) = 1
  have hS : Scalar ((b.toNat : Nat) : Int) := .inl (by omega)
  exact ⟨hS, by rw [pt8_1 k1, ofNat_toNat], by rw [sz8_nat hS, if_pos k1]⟩
 by_cases k2 : b.toNat < 194
 ·exact absurd (by rw [h2]; unfold bnds; rw [if_neg k1, if_pos k2]) hn0
 by_cases k3 : b.toNat < 224
 ·exact fin2 (lo := 128) (hi := 191) (by unfold bnds; rw [if_neg k1, if_neg k2, if_pos k3]) (by omega) k3 (by omega) (by omega)
 by_cases k4 : b.toNat = 224
 ·exact fin3 (lo := 160) (hi := 191) (by unfold bnds; rw [if_neg k1, if_neg k2, if_neg k3, if_pos k4]) (by omega) (by omega) (by omega) (by omega) (fun _ => by omega) (fun h => by omega)
 by_cases k5 : b.toNat = 237
 ·exact fin3 (lo := 128) (hi := 159) (by unfold bnds; rw [if_neg k1, if_neg k2, if_neg k3, if_neg k4, if_pos k5]) (by omega) (by omega) (by omega) (by omega) (fun h => by omega) (fun _ => by omega)
 by_cases k6 : b.toNat < 240
 ·exact fin3 (lo := 128) (hi := 191) (by unfold bnds; rw [if_neg k1, if_neg k2, if_neg k3, if_neg k4, if_neg k5, if_pos k6]) (by omega) (by omega) (by omega) (by omega) (fun h => by omega) (fun h => by omega)
 by_cases k7 : b.toNat = 240
 ·exact fin4 (lo := 144) (hi := 191) (by unfold bnds; rw [if_neg k1, if_neg k2, if_neg k3, if_neg k4, if_neg k5, if_neg k6, if_pos k7]) (by omega) (by omega) (by omega) (by omega) (fun _ => by omega) (fun h => by omega)
 by_cases k8 : b.toNat < 244
 ·exact fin4 (lo := 128) (hi := 191) (by unfold bnds; rw [if_neg k1, if_neg k2, if_neg k3, if_neg k4, if_neg k5, if_neg k6, if_neg k7, if_pos k8]) (by omega) (by omega) (by omega) (by omega) (fun h => by omega) (fun h => by omega)
 by_cases k9 : b.toNat = 244
 ·exact fin4 (lo := 128) (hi := 143) (by unfold bnds; rw [if_neg k1, if_neg k2, if_neg k3, if_neg k4, if_neg k5, if_neg k6, if_neg k7, if_neg k8, if_pos k9]) (by omega) (by omega) (by omega) (by omega) (fun h => by omega) (fun _ => by omega)
 ·exact absurd (by rw [h2]; unfold bnds; rw [if_neg k1, if_neg k2, if_neg k3, if_neg k4, if_neg k5, if_neg k6, if_neg k7, if_neg k8, if_neg k9]) hn0
def leadN (n : Nat) : Int := if n = 2 then 192 else if n = 3 then 224 else if n = 4 then 240 else 0
def goOn (a : Int) (l : Bs) : Int := l.foldl (fun a c => a * 64 + (c.toNat : Int) - 128) a
def meantP (n : Nat) : Bs → Int
 | [] => 0
 | b :: r => goOn ((b.toNat : Int) - leadN n) (r.take (n - 1))
theorem meant_pt {a : Int} (h : Scalar a) (r : Bs) : meantP (sz8 a) (pt8 a ++ r) = a := by
 obtain ⟨n, rfl⟩ : ∃ n : Nat, a = (n : Int) := Int.eq_ofNat_of_zero_le (by rcases h with h | h <;> omega)
 have hs := sz8_nat h
 by_cases k1 : n < 128
 ·rw [if_pos k1] at hs
  rw [hs, pt8_1 k1]
  show goOn (((UInt8.ofNat n).toNat : Int) - 0) [] = _
  rw [byte_nat (by omega)]; show ((n : Int) - 0) = n; omega
 by_cases k2 : n < 2048
 ·rw [if_neg k1, if_pos k2] at hs
  rw [hs, pt8_2 (by omega) k2]
  show (((UInt8.ofNat (192 + n / 64)).toNat : Int) - 192) * 64 + ((UInt8.ofNat (128 + n % 64)).toNat : Int) - 128 = _
  rw [byte_nat (by omega), byte_nat (by omega)]; omega
 by_cases k3 : n < 65536
 ·rw [if_neg k1, if_neg k2, if_pos k3] at hs
  rw [hs, pt8_3 h (by omega) k3]
  show ((((UInt8.ofNat (224 + n / 4096)).toNat : Int) - 224) * 64 + ((UInt8.ofNat (128 + n / 64 % 64)).toNat : Int) - 128) * 64 + ((UInt8.ofNat (128 + n % 64)).toNat : Int) - 128 = _
  rw [byte_nat (by omega), byte_nat (by omega), byte_nat (by omega)]; omega
 ·rw [if_neg k1, if_neg k2, if_neg k3] at hs
  have h' : n < 1114112 := by rcases h with h | h <;> omega
  rw [hs, pt8_4 (by omega) h']
  show (((((UInt8.ofNat (240 + n / 262144)).toNat : Int) - 240) * 64 + ((UInt8.ofNat (128 + n / 4096 % 64)).toNat : Int) - 128) * 64 + ((UInt8.ofNat (128 + n / 64 % 64)).toNat : Int) - 128) * 64 + ((UInt8.ofNat (128 + n % 64)).toNat : Int) - 128 = _
  rw [byte_nat (by omega), byte_nat (by omega), byte_nat (by omega), byte_nat (by omega)]; omega
def Hit (r : Bs) (n : Nat) : Prop := Scalar (meantP n r) ∧ r.take (pt8 (meantP n r)).length = pt8 (meantP n r) ∧ (pt8 (meantP n r)).length = n
theorem hit_nx {r : Bs} {n : Nat} (h : Hit r n) : nx8 r = (meantP n r, n) := by
 obtain ⟨h1, h2, h3⟩ := h
 have e : r = pt8 (meantP n r) ++ r.drop (pt8 (meantP n r)).length := by
  conv => lhs; rw [← List.take_append_drop (pt8 (meantP n r)).length r, h2]
 have := nx8_pt h1 (r.drop (pt8 (meantP n r)).length)
 rw [← e] at this
 have hl : (pt8 (meantP n r)).length = sz8 (meantP n r) := pt_len .u8 _ (fun h0 => by
  have h4 : sz8 (meantP n r) ≠ 0 := by
   unfold sz8
   rw [if_neg (by rcases h1 with h | h <;> omega)]
   repeat' split
   all_goals decide
  exact h4 h0)
 rw [this, ← hl, h3]
theorem nx_hit {b : UInt8} {r : Bs} (h : 0 ≤ (nx8 (b :: r)).1) : Hit (b :: r) (nx8 (b :: r)).2 ∧ meantP (nx8 (b :: r)).2 (b :: r) = (nx8 (b :: r)).1 := by
 obtain ⟨h1, h2, h3⟩ := nx8_back h
 have hsz := nx8_size b r
 have hl : (pt8 (nx8 (b :: r)).1).length = (nx8 (b :: r)).2 := by rw [h2, List.length_take]; omega
 have hm : meantP (nx8 (b :: r)).2 (b :: r) = (nx8 (b :: r)).1 := by
  have := meant_pt h1 ((b :: r).drop (nx8 (b :: r)).2)
  rw [h2, List.take_append_drop, h3] at this
  exact this
 refine ⟨⟨?_, ?_, ?_⟩, hm⟩
 ·rw [hm]; exact h1
 ·rw [hm, hl]; exact h2.symm
 ·rw [hm, hl]
theorem nx_neg {b : UInt8} {r : Bs} (h : ¬ 0 ≤ (nx8 (b :: r)).1) : nx8 (b :: r) = (-1 - (b.toNat : Int), 1) := by
 simp only [nx8] at h ⊢
 split at h
 ·rename_i hc; rw [if_pos hc]
 ·exact absurd (Int.natCast_nonneg _) h
end Cdc
end Go.Proofs.YtabcpghhfeplaaaGreat
namespace Go.Proofs.YtabcpghhfeplaaaGreat
open Go Go.Vx Cdc Trx
section
variable {w w' : World} {S : Nat → Prop} {p : Nat} {e : Enc} {lim na : Nat} {O : Nat → Prop} {M : Parts}
theorem eParts : ElemOk Tryz.prog 108 112 7 64 := ElemOk.of (z := .agg #[.slice none 0 0, .int .i64 0, .int .i64 0, .int .i64 0, .int .i64 0, .bool false, .bool false]) i108_ok i112_ok rfl rfl rfl (by decide)
def bOf (M : Parts) : Bs := M.flatMap fun x => x.2
theorem bOf_app (M N : Parts) : bOf (M ++ N) = bOf M ++ bOf N := by simp [bOf]
theorem Pc_one (x : Pc) : ∀ v ∈ flat c112 [pcT x], isOne v = true := by
 intro v hv
 rw [flat_one] at hv
 have : v ∈ (Cells.vals c112 (pcT x)) := hv
 revert this
 show v ∈ [_, _, _, _, _, _, _] → _
 intro h
 simp only [List.mem_cons, List.not_mem_nil, or_false] at h
 rcases h with rfl | rfl | rfl | rfl | rfl | rfl | rfl <;> rfl
set_option maxHeartbeats 1000000 in
theorem open_call {s : Sl} {l : Bs} (hB : By w s l) (hl : l.length ≤ lim) (hlim : lim ≤ 65536) {K : Option Addr × Int × Unit → World → Prop}
  (hK : ∀ p O M w', Txt w' p e lim 0 O M → aOf e M = ats e l → bOf M = l → Ext w w' → (∀ k, O k → w.heap.size ≤ k) → K (some (at0 p), 0, ()) w') :
  callT Tryz.prog 35 #[.int .i64 e.num, .slice s.a s.len s.cap, .int .i64 (lim : Int)] (.tup [(.one .ptr), (.one (.int .i64))]) K w := by
 refine F35_calls ?_
 unfold F35
 have hlen := hB.len
 have hen : 1 ≤ e.num ∧ e.num ≤ 4 := by cases e <;> decide
 refine join_r (fun x w' => x = (false, ()) ∧ w = w') (sif_r (fun h => ?_) (fun h => ⟨by rw [decide_eq_false (by omega)], rfl⟩)) ?_
 ·simp only [decide_eq_true_eq] at h; omega
 rintro _ _ ⟨rfl, rfl⟩
 refine sif_false (join_r (fun x w' => x = (false, ()) ∧ w = w') (sif_r (fun h => ?_) (fun h => ⟨by rw [decide_eq_false (by omega)], rfl⟩)) ?_)
 ·simp only [decide_eq_true_eq] at h; omega
 rintro _ _ ⟨rfl, rfl⟩
 refine sif_false (sif_r (fun h => ?_) (fun _ => ?_))
 ·simp only [decide_eq_true_eq, gt_iff_lt] at h; omega
 refine makeSlice_r EBy.ts_ i5_ok (z := .int .u8 0) rfl rfl (by omega) (by show ((s.len : Nat) : Int) * 1 ≤ 2 ^ 48; omega) (by omega) fun b w1 c n1 hc1 _ e1 hb1 => ?_
 rw [Int.toNat_natCast] at hc1 ⊢
 have hc1' : c.size = s.len := by rw [hc1]; show s.len * 1 = _; omega
 refine copy_r (off := 0) EBy.ts_ i5_ok.run_size n1 (by rw [List.length_map]; omega) (hB.ext e1).x (Nat.le_refl _) (bv_one l) fun w2 n2 u2 _ => ?_
 rw [setRow_whole (bv l) c (by rw [List.length_map]; omega)] at n2
 have e2 : Ext w w2 := e1.step u2 fun k hk => by omega
 have hL : By w2 ⟨some (at0 b), s.len, s.len⟩ l := by
  have := SlIn.of_box n2 (n := s.len) (sz := 1) (by simp; omega)
  simpa using this
 refine (St.start w2).newO fun b7 w3 S3 e3 => ?_
 have hb7 := S3.ge 0 rfl
 let Zt : Option Addr → Obj := fun q => .cells #[.int .i64 e.num, .int .i64 (lim : Int), .pointer q, .slice none 0 0] 107 (0, 0)
 let Lp : Nat → Sl → World → Prop := fun j r W => ∃ (its : List Pc) (M : Parts), St (fun _ => False) w2 W [(b7, Zt none)] ∧ SlOwn W w3.heap.size r 112 7 (flat c112 (its.map pcT)) ∧ Its W e its M ∧ aOf e M = (ats e l).take j ∧ bOf M = l.take (szs ((ats e l).take j)) ∧
  (∀ x ∈ its, ∀ k, x.bytes.blk k → k = b) ∧ By W ⟨some (at0 b), s.len, s.len⟩ l ∧ its.length ≤ j ∧ w3.heap.size ≤ W.heap.size
 have hne : ∀ {r : Sl} {its : List Pc} {W : World}, SlOwn W w3.heap.size r 112 7 (flat c112 (its.map pcT)) → its.length = r.len := fun ho => by
  have := SlOwn.lenR (cs := c112) ho (by decide)
  rwa [List.length_map] at this
 refine join_r (fun x W => ∃ j, Lp j x.1 W ∧ (ats e l).take j = ats e l) ?_ ?_
 ·refine sloop_r (fun x W => ∃ j, j ≤ (ats e l).length ∧ x.2 = (((szs ((ats e l).take j) : Nat) : Int), ()) ∧ Lp j x.1 W) (fun x _ => ((l.length : Int) - x.2.1).toNat) ⟨0, Nat.zero_le _, rfl, [], [], S3, SlOwn.nil _ _ _ _, trivial, rfl, rfl, (fun _ h => by cases h), hL.ext e3, Nat.le_refl _, Nat.le_refl _⟩ ?_
  rintro ⟨r, _⟩ W4 ⟨j, hj, rfl, its, M, S4, ho, hi, ha, hb, hk, hL4, hil, hW4⟩
  have hsj : szs ((ats e l).take j) ≤ l.length := pos_le j
  dsimp only at ho ⊢
  refine sif_r (fun hc => ?_) (fun hc => ?_)
  ·simp only [decide_eq_true_eq] at hc
   have hc' : szs ((ats e l).take j) < l.length := by omega
   refine join_r (fun x W => ∃ q, 1 ≤ q ∧ j + q ≤ (ats e l).length ∧ x = (((szs ((ats e l).take (j + q)) : Nat) : Int), ()) ∧ Ext W4 W) ?_ ?_
   ·refine sloop_r (fun x W => ∃ q, j + q ≤ (ats e l).length ∧ q ≤ 128 ∧ x = (((szs ((ats e l).take (j + q)) : Nat) : Int), (q : Int), ()) ∧ Ext W4 W) (fun x _ => ((l.length : Int) - x.1).toNat) ⟨0, by omega, by omega, rfl, Ext.refl W4⟩ ?_
    rintro _ W5 ⟨q, hq, hq2, rfl, x5⟩
    have hsq : szs ((ats e l).take (j + q)) ≤ l.length := pos_le _
    refine join_r (fun x W => x = (decide (szs ((ats e l).take (j + q)) < l.length ∧ q < 128), ()) ∧ W5 = W) ?_ ?_
    ·refine sif_r (fun h => ⟨tupb ?_, rfl⟩) (fun h => ⟨tupb ?_, rfl⟩)
     ·simp only [decide_eq_true_eq] at h ⊢; omega
     ·simp only [decide_eq_false_iff_not, decide_eq_true_eq] at h ⊢
      exact ⟨(fun h => by cases h), fun h => by omega⟩
    rintro _ W6 ⟨rfl, rfl⟩
    refine sif_r (fun h => ?_) (fun h => ?_)
    ·simp only [decide_eq_true_eq] at h
     obtain ⟨a, m, hqa, hnx, htk, hss, hm1, hsl⟩ := pos_step (e := e) (l := l) (j := j + q) h.1
     have hql : j + q < (ats e l).length := (List.getElem?_eq_some_iff.1 hqa).1
     refine next_call (hL4.ext x5) h.1 fun W7 x7 => ?_
     rw [hnx]
     have ewa : IntKind.wrap .i64 (((szs ((ats e l).take (j + q)) : Nat) : Int) + (m : Int)) = ((szs ((ats e l).take (j + q + 1)) : Nat) : Int) := by rw [wrap64 (by omega) (by omega)]; omega
     have ewb : IntKind.wrap .i64 ((q : Int) + 1) = ((q + 1 : Nat) : Int) := by rw [wrap64 (by omega) (by omega)]; omega
     refine ⟨⟨q + 1, by omega, by omega, by dsimp only; rw [ewa, ewb]; rfl, x5.trans x7⟩, ?_⟩
     dsimp only
     rw [ewa]; omega
    ·refine ⟨q, ?_, hq, rfl, x5⟩
     rcases Nat.eq_zero_or_pos q with h0 | h0
     ·subst h0
      have h' : ¬ (szs ((ats e l).take (j + 0)) < l.length ∧ 0 < 128) := fun hh => by rw [decide_eq_true hh] at h; cases h
      exact absurd ⟨hc', by decide⟩ h'
     ·exact h0
   ·rintro _ W5 ⟨q, hq1, hjq, rfl, x5⟩
    have S5 := S4.ext x5
    have hsq : szs ((ats e l).take (j + q)) ≤ l.length := pos_le _
    have hadd : szs ((ats e l).take (j + q)) = szs ((ats e l).take j) + szs (((ats e l).drop j).take q) := by rw [List.take_add, szs_append]
    have hpq := ((ats_posd e l).drop j).take q
    have hqpos : 1 ≤ szs (((ats e l).drop j).take q) := by
     have := szs_ge hpq
     rw [List.length_take, List.length_drop] at this; omega
    obtain ⟨pb, hpb⟩ : ∃ pb : Bs, pb = (l.drop (szs ((ats e l).take j))).take (szs (((ats e l).drop j).take q)) := ⟨_, rfl⟩
    have hpa : ats e pb = ((ats e l).drop j).take q := by
     have h1 := (ats_cut e j l).2
     have h2 := (ats_cut e q (l.drop (szs ((ats e l).take j)))).1
     rw [h1] at h2
     rw [hpb]; exact h2
    have hpl : pb.length = szs (((ats e l).drop j).take q) := by rw [← hpa, szs_all]
    have hL5 := hL4.ext x5
    have hcut := By.cut hL5 (l := ((szs ((ats e l).take j) : Nat) : Int)) (h := ((szs ((ats e l).take (j + q)) : Nat) : Int)) (m := ((szs ((ats e l).take (j + q)) : Nat) : Int)) (by omega) (by omega) (by show _ ≤ ((s.len : Nat) : Int); omega) (by omega) (by show _ ≤ ((s.len : Nat) : Int); omega)
    have hcb : (l.drop ((szs ((ats e l).take j) : Nat) : Int).toNat).take (((szs ((ats e l).take (j + q)) : Nat) : Int).toNat - ((szs ((ats e l).take j) : Nat) : Int).toNat) = pb := by
     rw [hpb, Int.toNat_natCast, Int.toNat_natCast, hadd, Nat.add_sub_cancel_left]
    rw [hcb] at hcut
    refine chk_r (by omega) (newpart_call hcut (by omega) fun W6 x6 => ?_)
    have S6 := S5.ext x6
    refine S6.newO fun b21 W7 S7 x7 => ?_
    have x47 := (x5.trans x6).trans x7
    have hrl := hne ho
    have hi7 : Its W7 e its M := hi.ext x47
    have hx : PcIn W7 e (mkPc e (Sl.cut (some (at0 b)) ((szs ((ats e l).take j) : Nat) : Int) ((szs ((ats e l).take (j + q)) : Nat) : Int) ((szs ((ats e l).take (j + q)) : Nat) : Int) 1) ((szs ((ats e l).take j) : Nat) : Int) pb) (((szs ((ats e l).take j) : Nat) : Int), pb) :=
     ⟨hcut.ext (x6.trans x7), rfl, rfl, fun h0 => by have h0' : pb = [] := h0; rw [h0'] at hpl; simp at hpl; omega, by show -1 ≤ ((szs ((ats e l).take j) : Nat) : Int); omega, by show ((szs ((ats e l).take j) : Nat) : Int) + (pb.length : Int) ≤ 2 ^ 40; omega⟩
    generalize hpc : mkPc e (Sl.cut (some (at0 b)) ((szs ((ats e l).take j) : Nat) : Int) ((szs ((ats e l).take (j + q)) : Nat) : Int) ((szs ((ats e l).take (j + q)) : Nat) : Int) 1) ((szs ((ats e l).take j) : Nat) : Int) pb = xp at *
    have hxb : ∀ k, xp.bytes.blk k → k = b := by
     rw [← hpc]
     rintro k hk
     obtain ⟨pp, hp1, hp2⟩ := cut_blk (s := ⟨some (at0 b), s.len, s.len⟩) hk
     cases hp1; exact hp2.symm
    have hbox : SlX W7 ⟨some (at0 b21), 1, 1⟩ 7 (flat c112 [pcT xp]) := by
     have := SlIn.of_box (S7.at_ 0 rfl) (n := 1) (sz := 7) rfl
     exact this.x
    refine append_rx eParts eParts.ts_ (x := ⟨some (at0 b21), 1, 1⟩) (ho.ext x47) hbox (Pc_one xp) (by
     show (r.len + 1 + (r.len + 1) / 4 + 512) * 64 ≤ 2 ^ 48
     have := szs_ge (ats_posd e l)
     rw [szs_all] at this
     omega) (by have := x47.size; omega) fun r' W8 o8 l8 u8 k8 => ?_
    have hty : ∀ {t' : TypeId}, 112 ≠ t' → NoTy W7 r.blk t' := fun ht => NoTy.blk (ho.ext x47).in ht
    have st8 : St (fun _ => False) w2 W8 [(b7, Zt none)] := by
     refine S7.tail.fresh u8 (fun k hk => .inr ?_) (fun x hx hk => ?_)
     ·have := ho.blk_ge hk; have := e3.size; omega
     ·rw [List.mem_singleton.1 hx] at hk
      exact hty (by decide) _ hk _ _ (S7.at_ 1 rfl)
    have e8 : flat c112 (its.map pcT) ++ flat c112 [pcT xp] = flat c112 ((its ++ [xp]).map pcT) := by rw [List.map_append, flat_append]; rfl
    rw [e8] at o8
    have hi8 : Its W8 e (its ++ [xp]) (M ++ [(((szs ((ats e l).take j) : Nat) : Int), pb)]) := by
     have h9 : Its W7 e (its ++ [xp]) (M ++ [(((szs ((ats e l).take j) : Nat) : Int), pb)]) := hi7.app ⟨hx, trivial⟩
     refine h9.upd u8 fun x hx k hk hS => ?_
     obtain ⟨y, hy⟩ : ∃ y, PcIn W7 e x y := by
      obtain ⟨n, hn⟩ := List.getElem?_of_mem hx
      obtain ⟨y, _, hy⟩ := h9.get n hn
      exact ⟨y, hy⟩
     obtain ⟨c2, fr2, hc2⟩ := hy.by_.blk_cells hk
     exact hty (t' := 5) (by decide) k hS _ _ hc2
    refine ⟨⟨j + q, hjq, rfl, its ++ [xp], M ++ [_], st8, o8, hi8, ?_, ?_, ?_, ?_, ?_, ?_⟩, ?_⟩
    ·rw [aOf_app, ha, List.take_add]
     show _ ++ aOf e [_] = _
     simp only [aOf, List.flatMap_cons, List.flatMap_nil, List.append_nil]
     rw [hpa]
    ·rw [bOf_app, hb, hadd, List.take_add]
     show _ ++ bOf [_] = _
     simp only [bOf, List.flatMap_cons, List.flatMap_nil, List.append_nil]
     rw [hpb]
    ·intro x hx k hkk
     rcases List.mem_append.1 hx with hx | hx
     ·exact hk x hx k hkk
     ·rw [List.mem_singleton.1 hx] at hkk; exact hxb k hkk
    ·exact SlIn.ty (hL5.ext (x6.trans x7)) u8 (hty (by decide))
    ·rw [List.length_append]; simp; omega
    ·have := u8.size; have := x47.size; omega
    ·dsimp only
     omega
  ·simp only [decide_eq_false_iff_not] at hc
   have := pos_end (e := e) (l := l) (j := j) (by omega)
   exact ⟨j, ⟨its, M, S4, ho, hi, ha, hb, hk, hL4, hil, hW4⟩, this⟩
 ·rintro ⟨r, _⟩ W4 ⟨j, ⟨its, M, S4, ho, hi, ha, hb, hk, hL4, hil, hW4⟩, hj⟩
  rw [hj] at ha hb
  have hM : szs (aOf e M) = l.length := by rw [ha, szs_all]
  have hfine := hi.fine (by omega)
  refine treeOf_call (l := its) ho.in hfine fun t W5 ht hti x5 => nn_some ?_
  have S5 := S4.ext x5
  rw [addr_add]
  refine aggSt_r (S5.at_ 0 rfl) rfl rfl (by show 0 + 2 + 1 ≤ 4; decide) fun W6 u56 n6' z6 => ?_
  have n6 : W6.heap[b7]? = some (Zt t.ptr) := n6'
  have hb0 : w.heap.size ≤ b := by omega
  have hb0' : w.heap.size ≤ b7 := by have := e2.size; omega
  have e06 : Ext w W6 := (e2.trans S5.upd).step u56 fun k hk => by omega
  refine hK b7 (fun k => k = b ∨ k = b7) M W6 ⟨⟨t, ⟨none, 0, 0⟩, [], n6, ?_, ?_, SlOwn.nil _ _ _ _, ?_, ?_, ?_, Nat.le_refl _⟩, hlim, by omega, .inr rfl, ?_⟩ ha (by rw [hb, szs_all]; exact List.take_length) e06 (by rintro k (rfl | rfl) <;> assumption)
  ·exact ht.ty u56 (NoTy.box (S5.at_ 0 rfl) (by decide))
  ·rw [hti]
   refine (hi.ext x5).upd u56 fun x hx k hkk he => ?_
   have := hk x hx k hkk
   have hbl := lt_of_heap n2
   omega
  ·rintro x hx k hkk ⟨q, hq, _⟩; cases hq
  ·intro x hx k hkk
   rw [hti] at hx
   exact .inl (hk x hx k hkk)
  ·rintro k ⟨q, hq, _⟩; cases hq
  ·have hbl := lt_of_heap n2
   have h7 := lt_of_heap n6
   have := S5.upd.size
   rintro k (rfl | rfl) <;> omega
end
section
variable {w w' : World}
theorem bv_lit {b : Nat} {c : Array Value} {l : Bs} (h : w.heap[b]? = some (.cells c 5 (0, 0))) (hc : c.toList = bv l) : By w ⟨some (at0 b), l.length, l.length⟩ l := by
 have hs : c.size = l.length * 1 := by rw [← Array.length_toList, hc, List.length_map]; omega
 have := SlIn.of_box h (n := l.length) (sz := 1) hs
 rw [hc] at this
 exact this
theorem lit_byte {n : Int} {m : Nat} (hm : m < 256) (h : n = (m : Int)) : Value.int .u8 (IntKind.wrap .u8 n) = Value.int .u8 ((UInt8.ofNat m).toNat : Int) := by
 rw [h, byte_nat hm, wrap8 (by omega) (by omega)]
theorem eight_call {a : Int} (ha : Scalar a) {K : Sl → World → Prop} (hK : ∀ s w', By w' s (pt8 a) → Ext w w' → K s w') : callT Tryz.prog 118 #[.int .i64 a] (.one (.one .sl)) K w := by
 refine F118_calls ?_
 unfold F118
 obtain ⟨n, rfl⟩ : ∃ n : Nat, a = (n : Int) := Int.eq_ofNat_of_zero_le (by rcases ha with h | h <;> omega)
 have td : ∀ m : Nat, Int.tdiv (n : Int) ((m : Nat) : Int) = ((n / m : Nat) : Int) := fun m => by rw [Int.tdiv_eq_ediv_of_nonneg (by omega)]; rfl
 have tm : ∀ k m : Nat, Int.tmod (k : Int) ((m : Nat) : Int) = ((k % m : Nat) : Int) := fun k m => by rw [Int.tmod_eq_emod_of_nonneg (by omega)]; rfl
 have d64 := td 64; have d4096 := td 4096; have d262144 := td 262144
 have hn : n < 1114112 := by rcases ha with h | h <;> omega
 refine sif_r (fun h => ?_) (fun h => sif_r (fun h2 => ?_) (fun h2 => sif_r (fun h3 => ?_) (fun h3 => ?_)))
 ·simp only [decide_eq_true_eq] at h
  refine newO_r fun b w1 e1 n1 _ _ => hK _ w1 ?_ e1
  have := bv_lit (l := pt8 (n : Int)) n1 (by rw [pt8_1 (by omega)]; show [_] = [_]; rw [lit_byte (m := n) (by omega) rfl])
  rw [pt8_1 (by omega)] at this ⊢
  exact this
 ·simp only [decide_eq_true_eq, decide_eq_false_iff_not] at h h2
  refine chk_r (by decide) (chk_r (by decide) (newO_r fun b w1 e1 n1 _ _ => hK _ w1 ?_ e1))
  have := bv_lit (l := pt8 (n : Int)) n1 (by
   rw [pt8_2 (by omega) (by omega)]
   show [_, _] = [_, _]
   have e1 := td 64; have e2 := tm n 64
   simp only [Int.cast_ofNat_Int] at e1 e2
   rw [e1, e2, wrap64 (a := ((n / 64 : Nat) : Int)) (by omega) (by omega), wrap64 (by omega) (by omega), wrap64 (by omega) (by omega), lit_byte (m := 192 + n / 64) (by omega) (by omega), lit_byte (m := 128 + n % 64) (by omega) (by omega)])
  rw [pt8_2 (by omega) (by omega)] at this ⊢
  exact this
 ·simp only [decide_eq_true_eq, decide_eq_false_iff_not] at h h2 h3
  refine chk_r (by decide) (chk_r (by decide) (chk_r (by decide) (chk_r (by decide) (newO_r fun b w1 e1 n1 _ _ => hK _ w1 ?_ e1))))
  have := bv_lit (l := pt8 (n : Int)) n1 (by
   rw [pt8_3 ha (by omega) (by omega)]
   show [_, _, _] = [_, _, _]
   have e1 := td 64; have e2 := tm n 64; have e3 := td 4096; have e4 := tm (n / 64) 64
   simp only [Int.cast_ofNat_Int] at e1 e2 e3 e4
   rw [e1, e2, e3, wrap64 (a := ((n / 64 : Nat) : Int)) (by omega) (by omega), wrap64 (a := ((n / 4096 : Nat) : Int)) (by omega) (by omega), e4, wrap64 (by omega) (by omega), wrap64 (by omega) (by omega), wrap64 (by omega) (by omega), lit_byte (m := 224 + n / 4096) (by omega) (by omega), lit_byte (m := 128 + n / 64 % 64) (by omega) (by omega), lit_byte (m := 128 + n % 64) (by omega) (by omega)])
  rw [pt8_3 ha (by omega) (by omega)] at this ⊢
  exact this
 ·simp only [decide_eq_false_iff_not] at h h2 h3
  refine chk_r (by decide) (chk_r (by decide) (chk_r (by decide) (chk_r (by decide) (chk_r (by decide) (chk_r (by decide) (newO_r fun b w1 e1 n1 _ _ => hK _ w1 ?_ e1))))))
  have := bv_lit (l := pt8 (n : Int)) n1 (by
   rw [pt8_4 (by omega) (by omega)]
   show [_, _, _, _] = [_, _, _, _]
   have e1 := td 64; have e2 := tm n 64; have e3 := td 4096; have e4 := tm (n / 64) 64; have e5 := td 262144; have e6 := tm (n / 4096) 64
   simp only [Int.cast_ofNat_Int] at e1 e2 e3 e4 e5 e6
   rw [e1, e2, e3, e5, wrap64 (a := ((n / 64 : Nat) : Int)) (by omega) (by omega), wrap64 (a := ((n / 4096 : Nat) : Int)) (by omega) (by omega), wrap64 (a := ((n / 262144 : Nat) : Int)) (by omega) (by omega), e4, e6, wrap64 (by omega) (by omega), wrap64 (by omega) (by omega), wrap64 (by omega) (by omega), wrap64 (by omega) (by omega),
    lit_byte (m := 240 + n / 262144) (by omega) (by omega), lit_byte (m := 128 + n / 4096 % 64) (by omega) (by omega), lit_byte (m := 128 + n / 64 % 64) (by omega) (by omega), lit_byte (m := 128 + n % 64) (by omega) (by omega)])
  rw [pt8_4 (by omega) (by omega)] at this ⊢
  exact this
theorem begins_call {s t : Sl} {l m : Bs} {n : Nat} (hs : By w s l) (ht : By w t m) (hn : n ≤ l.length) (hl : l.length < 2 ^ 60) (hm : m.length < 2 ^ 60) {K : Bool → World → Prop} (hK : ∀ w', Ext w w' → K (decide ((l.drop n).take m.length = m)) w') :
  callT Tryz.prog 119 #[.slice s.a s.len s.cap, .int .i64 (n : Int), .slice t.a t.len t.cap] (.one (.one .bool)) K w := by
 refine F119_calls ?_
 unfold F119
 have h1 := hs.len; have h2 := ht.len
 rw [wrap64 (by omega) (by omega)]
 refine sif_r (fun h => ?_) (fun h => ?_)
 ·simp only [decide_eq_true_eq, gt_iff_lt] at h
  have := hK w (Ext.refl w)
  rw [decide_eq_false] at this
  ·exact this
  ·intro hc
   have := congrArg List.length hc
   rw [List.length_take, List.length_drop] at this; omega
 simp only [decide_eq_false_iff_not, gt_iff_lt] at h
 refine join_r (fun _ w' => Ext w w' ∧ (l.drop n).take m.length = m) ?_ ?_
 ·refine sloop_r (fun x w' => ∃ i : Nat, i ≤ m.length ∧ x = ((i : Int), ()) ∧ Ext w w' ∧ (l.drop n).take i = m.take i) (fun x _ => ((m.length : Int) - x.1).toNat) ⟨0, Nat.zero_le _, rfl, Ext.refl w, by simp⟩ ?_
  rintro _ w1 ⟨i, hi, rfl, e1, heq⟩
  refine sif_r (fun hc => ?_) (fun hc => ?_)
  ·simp only [decide_eq_true_eq] at hc
   have him : i < m.length := by omega
   have hil : n + i < l.length := by omega
   have ew : IntKind.wrap .i64 ((n : Int) + (i : Int)) = ((n + i : Nat) : Int) := by rw [wrap64 (by omega) (by omega)]; omega
   rw [ew]
   refine drew_r fun w2 e2 _ => ix_by (hs.ext (e1.trans e2)) (by omega) (b := l[n + i]) (by rw [Int.toNat_natCast]; simp [hil]) fun p => ix_by (ht.ext (e1.trans e2)) (by omega) (b := m[i]) (by rw [Int.toNat_natCast]; simp [him]) fun q => ?_
   have g1 : (l.drop n)[i]? = some l[n + i] := by rw [List.getElem?_drop]; simp [hil]
   refine sif_r (fun hne => ?_) (fun hne => ?_)
   ·simp only [bne_iff_ne] at hne
    have := hK w2 (e1.trans e2)
    rw [decide_eq_false] at this
    ·exact this
    ·intro hc2
     have h5 : ((l.drop n).take m.length)[i]? = m[i]? := by rw [hc2]
     rw [List.getElem?_take, if_pos him, g1, List.getElem?_eq_getElem him] at h5
     exact hne (by rw [Option.some.inj h5])
   ·have hne' : ((l[n + i].toNat : Int) != (m[i].toNat : Int)) = false := hne
    simp only [bne_eq_false_iff_eq] at hne'
    have hbe : l[n + i] = m[i] := UInt8.toNat_inj.1 (by omega)
    have ew2 : IntKind.wrap .i64 ((i : Int) + 1) = ((i + 1 : Nat) : Int) := by rw [wrap64 (by omega) (by omega)]; omega
    refine ⟨⟨i + 1, by omega, by rw [ew2], e1.trans e2, ?_⟩, ?_⟩
    ·rw [List.take_add_one, List.take_add_one, heq, g1, List.getElem?_eq_getElem him, hbe]
    ·dsimp only
     rw [ew2]; omega
  ·simp only [decide_eq_false_iff_not] at hc
   have : i = m.length := by omega
   subst this
   exact ⟨e1, by rw [heq, List.take_length]⟩
 ·rintro _ w1 ⟨e1, heq⟩
  have := hK w1 e1
  rwa [decide_eq_true heq] at this
theorem goOn_bound : ∀ (l : Bs) (a : Int), l.length ≤ 3 → -1000 ≤ a → a ≤ 1000 → -1000000000 ≤ goOn a l ∧ goOn a l ≤ 1000000000 := by
 intro l a hl h0 h1
 match l, hl with
 | [], _ => exact ⟨by show -1000000000 ≤ a; omega, by show a ≤ 1000000000; omega⟩
 | [x], _ => have := x.toNat_lt; exact ⟨by show _ ≤ a * 64 + (x.toNat : Int) - 128; omega, by show a * 64 + (x.toNat : Int) - 128 ≤ _; omega⟩
 | [x, y], _ => have := x.toNat_lt; have := y.toNat_lt; exact ⟨by show _ ≤ (a * 64 + (x.toNat : Int) - 128) * 64 + (y.toNat : Int) - 128; omega, by show (a * 64 + (x.toNat : Int) - 128) * 64 + (y.toNat : Int) - 128 ≤ _; omega⟩
 | [x, y, z], _ => have := x.toNat_lt; have := y.toNat_lt; have := z.toNat_lt; exact ⟨by show _ ≤ ((a * 64 + (x.toNat : Int) - 128) * 64 + (y.toNat : Int) - 128) * 64 + (z.toNat : Int) - 128; omega, by show ((a * 64 + (x.toNat : Int) - 128) * 64 + (y.toNat : Int) - 128) * 64 + (z.toNat : Int) - 128 ≤ _; omega⟩
theorem goOn_snoc (a : Int) (l : Bs) (x : UInt8) : goOn a (l ++ [x]) = goOn a l * 64 + (x.toNat : Int) - 128 := by simp [goOn]
theorem meant_call {s : Sl} {b : UInt8} {l r : Bs} {n m : Nat} (hs : By w s l) (hl : l.length < 2 ^ 60) (hr : l.drop n = b :: r) (hm0 : 1 ≤ m) (hm4 : m ≤ 4) (hm : n + m ≤ l.length) {K : Int → World → Prop} (hK : ∀ w', Ext w w' → K (meantP m (b :: r)) w') :
    callT Tryz.prog 116 #[.slice s.a s.len s.cap, .int .i64 (n : Int), .int .i64 (m : Int)] (.one (.one (.int .i64))) K w := by
  refine F116_calls ?_
  unfold F116
  have h1 := hs.len
  have hb := b.toNat_lt
  have hnl : n < l.length := by omega
  have hrl : r.length = l.length - n - 1 := by
    have := congrArg List.length hr
    rw [List.length_drop, List.length_cons] at this; omega
  have g0 : l[n]? = some b := by
    have := congrArg (fun x => x[0]?) hr
    simp only [List.getElem?_drop, List.getElem?_cons_zero, Nat.add_zero] at this
    exact this
  have gi : ∀ i, l[n + (i + 1)]? = r[i]? := fun i => by
    have := congrArg (fun x => x[i + 1]?) hr
    simp only [List.getElem?_drop, List.getElem?_cons_succ] at this
    exact this
  refine (St.start w).newAgg rfl rfl rfl fun b1 w1 S1 e1 => S1.drew fun w2 S2 e2 _ => ix_by (hs.ext S2.upd) (by omega) (b := b) (by rw [Int.toNat_natCast]; exact g0) fun p => chk_r (by omega) ?_
  rw [addr_add, scaled_eq, Int.toNat_natCast]
  have hlead : (#[(.int .i64 (0 : Int)), (.int .i64 (0 : Int)), (.int .i64 (192 : Int)), (.int .i64 (224 : Int)), (.int .i64 (240 : Int))] : Array Value)[0 + m * 1]? = some (.int .i64 (leadN m)) := by
    match m, hm0, hm4 with
    | 1, _, _ => rfl
    | 2, _, _ => rfl
    | 3, _, _ => rfl
    | 4, _, _ => rfl
  have hlb : 0 ≤ leadN m ∧ leadN m ≤ 240 := by unfold leadN; repeat' split
                                               all_goals omega
  refine ld_r (S2.at_ 0 rfl) (x := leadN m) hlead ?_
  rw [wrap64 (a := (b.toNat : Int)) (by omega) (by omega), wrap64 (a := (b.toNat : Int) - leadN m) (by omega) (by omega)]
  refine join_r (fun x w' => x = (meantP m (b :: r), ()) ∧ Ext w w') ?_ ?_
  · refine sloop_r (fun x w' => ∃ i : Nat, 1 ≤ i ∧ i ≤ m ∧ x = (goOn ((b.toNat : Int) - leadN m) (r.take (i - 1)), (i : Int), ()) ∧ Ext w w') (fun x _ => ((m : Int) - x.2.1).toNat) ⟨1, by omega, by omega, rfl, S2.upd⟩ ?_
    rintro _ w3 ⟨i, hi1, him, rfl, e3⟩
    refine sif_r (fun hc => ?_) (fun hc => ?_)
    · simp only [decide_eq_true_eq] at hc
      have ew : IntKind.wrap .i64 ((n : Int) + (i : Int)) = ((n + i : Nat) : Int) := by rw [wrap64 (by omega) (by omega)]; omega
      rw [ew]
      have hil : n + i < l.length := by omega
      refine ix_by (hs.ext e3) (by omega) (b := l[n + i]) (by rw [Int.toNat_natCast]; simp [hil]) fun q => ?_
      have hxb := l[n + i].toNat_lt
      have hg : r[i - 1]? = some l[n + i] := by
        rw [← gi (i - 1), show n + (i - 1 + 1) = n + i by omega]; simp [hil]
      have hbd := goOn_bound (r.take (i - 1)) ((b.toNat : Int) - leadN m) (by rw [List.length_take]; omega) (by omega) (by omega)
      have hsn : goOn ((b.toNat : Int) - leadN m) (r.take (i + 1 - 1)) = goOn ((b.toNat : Int) - leadN m) (r.take (i - 1)) * 64 + (l[n + i].toNat : Int) - 128 := by
        rw [show i + 1 - 1 = (i - 1) + 1 by omega, List.take_add_one, hg]
        exact goOn_snoc _ _ _
      have ew2 : IntKind.wrap .i64 ((i : Int) + 1) = ((i + 1 : Nat) : Int) := by rw [wrap64 (by omega) (by omega)]; omega
      rw [wrap64 (a := goOn ((b.toNat : Int) - leadN m) (r.take (i - 1)) * 64) (by omega) (by omega), wrap64 (a := (l[n + i].toNat : Int)) (by omega) (by omega), wrap64 (a := goOn ((b.toNat : Int) - leadN m) (r.take (i - 1)) * 64 + (l[n + i].toNat : Int)) (by omega) (by omega), wrap64 (a := goOn ((b.toNat : Int) - leadN m) (r.take (i - 1)) * 64 + (l[n + i].toNat : Int) - 128) (by omega) (by omega), ew2]
      refine ⟨⟨i + 1, by omega, by omega, ?_, e3⟩, ?_⟩
      · rw [hsn]
      · dsimp only; omega
    · simp only [decide_eq_false_iff_not] at hc
      have : i = m := by omega
      subst this
      exact ⟨rfl, e3⟩
  · rintro _ w3 ⟨rfl, e3⟩
    exact hK w3 e3
theorem eightAt_call {s : Sl} {l : Bs} {n : Nat} (hs : By w s l) (hl : l.length < 2 ^ 60) (hn : n < l.length) {K : Int × Int × Unit → World → Prop} (hK : ∀ w', Ext w w' → K ((nx8 (l.drop n)).1, ((nx8 (l.drop n)).2 : Nat), ()) w') :
  callT Tryz.prog 83 #[.slice s.a s.len s.cap, .int .i64 (n : Int)] (.tup [(.one (.int .i64)), (.one (.int .i64))]) K w := by
 refine F83_calls ?_
 unfold F83
 have h1 := hs.len
 obtain ⟨b, r, hr⟩ : ∃ b r, l.drop n = b :: r := ⟨_, _, List.drop_eq_getElem_cons hn⟩
 have hb := b.toNat_lt
 have hrl : r.length = l.length - n - 1 := by
  have := congrArg List.length hr
  rw [List.length_drop, List.length_cons] at this; omega
 have g0 : l[n]? = some b := by
  have := congrArg (fun x => x[0]?) hr
  simp only [List.getElem?_drop, List.getElem?_cons_zero, Nat.add_zero] at this
  exact this
 rw [hr] at hK
 have hsz := nx8_size b r
 refine join_r (fun _ w' => Ext w w' ∧ ¬ 0 ≤ (nx8 (b :: r)).1) ?_ ?_
 ·refine sloop_r (fun x w' => ∃ i : Nat, 1 ≤ i ∧ i ≤ 5 ∧ x = ((i : Int), ()) ∧ Ext w w' ∧ (0 ≤ (nx8 (b :: r)).1 → i ≤ (nx8 (b :: r)).2)) (fun x _ => ((5 : Int) - x.1).toNat) ⟨1, by omega, by omega, rfl, Ext.refl w, fun _ => hsz.1⟩ ?_
  rintro _ w1 ⟨i, hi1, hi5, rfl, e1, hno⟩
  refine join_r (fun x w' => x = (decide (i ≤ 4 ∧ n + i ≤ l.length), ()) ∧ w1 = w') ?_ ?_
  ·refine sif_r (fun h => ⟨tupb ?_, rfl⟩) (fun h => ⟨tupb ?_, rfl⟩)
   ·simp only [decide_eq_true_eq] at h ⊢
    rw [wrap64 (by omega) (by omega)]; omega
   ·simp only [decide_eq_false_iff_not, decide_eq_true_eq] at h ⊢
    exact ⟨(fun h => by cases h), fun h => by omega⟩
  rintro _ w2 ⟨rfl, rfl⟩
  refine sif_r (fun h => ?_) (fun h => ?_)
  ·simp only [decide_eq_true_eq] at h
   have ew : IntKind.wrap .i64 ((i : Int) + 1) = ((i + 1 : Nat) : Int) := by rw [wrap64 (by omega) (by omega)]; omega
   refine join_r (fun _ w' => Ext w w' ∧ ¬ Hit (b :: r) i) ?_ ?_
   ·refine meant_call (hs.ext e1) hl hr hi1 h.1 h.2 fun w3 e3 => ?_
    refine rscalar_call (fun hS => sif_r (fun h => by cases h) (fun _ => ?_)) (fun hS => sif_r (fun _ => ⟨e1.trans e3, fun hh => hS hh.1⟩) (fun h => by cases h))
    refine eight_call hS fun t w4 ht e4 => ?_
    have hpl : (pt8 (meantP i (b :: r))).length ≤ 4 := by
     have hne : sz8 (meantP i (b :: r)) ≠ 0 ∧ sz8 (meantP i (b :: r)) ≤ 4 := by
      unfold sz8
      rw [if_neg (by rcases hS with h | h <;> omega)]
      repeat' split
      all_goals decide
     have := pt_len .u8 _ hne.1
     show (pt .u8 _).length ≤ 4
     rw [this]; exact hne.2
    refine begins_call (hs.ext ((e1.trans e3).trans e4)) ht (by omega) hl (by omega) fun w5 e5 => ?_
    rw [hr]
    have htl := ht.len
    have e15 := ((e1.trans e3).trans e4).trans e5
    refine join_r (fun x w' => (x.1 = true ↔ Hit (b :: r) i) ∧ w5 = w') ?_ ?_
    ·refine sif_r (fun h => ⟨?_, rfl⟩) (fun h => ⟨?_, rfl⟩)
     ·simp only [beq_iff_eq] at h
      simp only [decide_eq_true_eq]
      exact ⟨fun hh => ⟨hS, hh, by omega⟩, fun hh => hh.2.1⟩
     ·simp only [beq_eq_false_iff_ne] at h
      exact ⟨(fun h => by cases h), fun hh => by have := hh.2.2; omega⟩
    rintro ⟨x, _⟩ w6 ⟨hx, rfl⟩
    refine sif_r (fun hh => ?_) (fun hh => ⟨e15, fun hit => by have h1 := hx.2 hit; have h2 : x = false := hh; rw [h2] at h1; cases h1⟩)
    have hit := hx.1 hh
    have := hK w5 e15
    rw [hit_nx hit] at this
    exact this
   ·rintro _ w3 ⟨e3, hno2⟩
    refine ⟨⟨i + 1, by omega, by omega, by rw [ew], e3, fun h0 => ?_⟩, ?_⟩
    ·have := hno h0
     rcases Nat.lt_or_ge i (nx8 (b :: r)).2 with h2 | h2
     ·omega
     ·have : i = (nx8 (b :: r)).2 := by omega
      subst this
      exact absurd (nx_hit h0).1 hno2
    ·dsimp only
     rw [ew]; omega
  ·simp only [decide_eq_false_iff_not] at h
   refine ⟨e1, fun h0 => h ?_⟩
   have h2 := hno h0
   have h3 := hsz.2.1
   rw [List.length_cons] at h3
   omega
 ·rintro _ w1 ⟨e1, hneg⟩
  refine ix_by (hs.ext e1) (by omega) (b := b) (by rw [Int.toNat_natCast]; exact g0) fun p => ?_
  have := hK w1 e1
  rw [nx_neg hneg] at this
  rw [wrap64 (a := (b.toNat : Int)) (by omega) (by omega), wrap64 (by omega) (by omega)]
  exact this
theorem rat_call {e : Enc} {s : Sl} {l : Bs} {n : Nat} (hs : By w s l) (hl : l.length < 2 ^ 59) (hn : n < l.length) {K : Int × Int × Unit → World → Prop} (hK : ∀ w', Ext w w' → K ((nx e (l.drop n)).1, ((nx e (l.drop n)).2 : Nat), ()) w') :
  callT Tryz.prog 62 #[.int .i64 e.num, .slice s.a s.len s.cap, .int .i64 (n : Int)] (.tup [(.one (.int .i64)), (.one (.int .i64))]) K w := by
 refine F62_calls ?_
 unfold F62
 have h1 := hs.len
 obtain ⟨b, r, hr⟩ : ∃ b r, l.drop n = b :: r := ⟨_, _, List.drop_eq_getElem_cons hn⟩
 have hb := b.toNat_lt
 have g0 : l[n]? = some b := by
  have := congrArg (fun x => x[0]?) hr
  simp only [List.getElem?_drop, List.getElem?_cons_zero, Nat.add_zero] at this
  exact this
 have six : ∀ be : Bool, e.num = (if be then 3 else 2) → nx e = nx16 be →
   callT Tryz.prog 84 #[.int .i64 e.num, .slice s.a s.len s.cap, .int .i64 (n : Int)] (.one (.one (.int .i64))) (fun (x4 : Int) => sif (decide (x4 < (0 : Int))) (
    ix s.a s.len (n : Int) fun p5 =>
    ld (.int .u8) (p5.add (scaled (Int.toNat (n : Int)) 1)) fun (x6 : Int) =>
    K ((IntKind.wrap .i64 ((-1 : Int) - (IntKind.wrap .i64 x6))), (1 : Int), ())) (
    callT Tryz.prog 84 #[(.int .i64 e.num), (.slice s.a s.len s.cap), (.int .i64 (IntKind.wrap .i64 ((n : Int) + (2 : Int))))] (.one (.one (.int .i64))) fun (x7 : Int) =>
    join (S := Bool × Unit) (fun J8 =>
     sif (decide (x4 ≥ (55296 : Int))) (
      sif (decide (x4 < (56320 : Int))) (
       sif (decide (x7 ≥ (56320 : Int))) (
        J8 ((decide (x7 < (57344 : Int))), ())) (
        J8 (false, ()))) (
       J8 (false, ()))) (
      J8 (false, ()))) fun (s9 : Bool × Unit) =>
    sif s9.1 (
     K ((IntKind.wrap .i64 ((IntKind.wrap .i64 ((IntKind.wrap .i64 ((65536 : Int) + (IntKind.wrap .i64 ((IntKind.wrap .i64 (x4 - (55296 : Int))) * (1024 : Int))))) + x7)) - (56320 : Int))), (4 : Int), ())) (
     K (x4, (2 : Int), ())))) w := by
  intro be hbe hnx
  rw [hbe]
  rw [hnx] at hK
  refine runit_call hs (by omega) (by omega) fun w1 e1 => ?_
  rw [hr] at hK ⊢
  have e2 : IntKind.wrap .i64 ((n : Int) + 2) = ((n + 2 : Nat) : Int) := by rw [wrap64 (by omega) (by omega)]; omega
  rw [e2]
  cases r with
  | nil =>
   refine sif_r (fun _ => ?_) (fun h => by cases h)
   refine ix_by (hs.ext e1) (by omega) (b := b) (by rw [Int.toNat_natCast]; exact g0) fun p => ?_
   rw [wrap64 (a := (b.toNat : Int)) (by omega) (by omega), wrap64 (by omega) (by omega)]
   exact hK w1 e1
  | cons c r' =>
   have hc := c.toNat_lt
   have hu : un be b c < 65536 := by unfold un; split <;> omega
   have hx4 : unI be (b :: c :: r') = ((un be b c : Nat) : Int) := rfl
   refine sif_r (fun h => by simp only [decide_eq_true_eq] at h; omega) (fun _ => ?_)
   refine runit_call (hs.ext e1) (by omega) (by omega) fun w2 e3 => ?_
   have e12 := e1.trans e3
   have hd2 : l.drop (n + 2) = r' := by
    have := congrArg (List.drop 2) hr
    rw [List.drop_drop] at this
    simpa using this
   rw [hd2]
   refine join_r (fun x w' => (x.1 = true ↔ (un be b c / 1024 = 54 ∧ ∃ d f r'', r' = d :: f :: r'' ∧ un be d f / 1024 = 55)) ∧ w2 = w') ?_ ?_
   ·have key : ∀ x7, x7 = unI be r' → ((56320 ≤ x7 ∧ x7 < 57344) ↔ ∃ d f r'', r' = d :: f :: r'' ∧ un be d f / 1024 = 55) := by
     rintro x7 rfl
     match r' with
     | [] => exact ⟨fun h => by have h' : (56320 : Int) ≤ -1 := h.1; omega, by rintro ⟨d, f, r'', h, _⟩; cases h⟩
     | [d] => exact ⟨fun h => by have h' : (56320 : Int) ≤ -1 := h.1; omega, by rintro ⟨d, f, r'', h, _⟩; cases h⟩
     | d :: f :: r'' =>
      show ((56320 : Int) ≤ ((un be d f : Nat) : Int) ∧ ((un be d f : Nat) : Int) < 57344) ↔ _
      constructor
      ·intro h; exact ⟨d, f, r'', rfl, by omega⟩
      ·rintro ⟨d', f', r3, h, hu⟩; cases h; omega
    have key' := key _ rfl
    refine sif_r (fun h => sif_r (fun h2 => sif_r (fun h3 => ⟨?_, rfl⟩) (fun h3 => ⟨?_, rfl⟩)) (fun h2 => ⟨?_, rfl⟩)) (fun h => ⟨?_, rfl⟩)
    all_goals (try simp only [decide_eq_true_eq, decide_eq_false_iff_not, ge_iff_le] at h)
    all_goals (try simp only [decide_eq_true_eq, decide_eq_false_iff_not, ge_iff_le] at h2)
    all_goals (try simp only [decide_eq_true_eq, decide_eq_false_iff_not, ge_iff_le] at h3)
    all_goals (try simp only [decide_eq_true_eq])
    all_goals have hx4 : unI be (b :: c :: r') = ((un be b c : Nat) : Int) := rfl
    ·rw [← key']
     constructor
     ·intro h4; exact ⟨by clear key key'; omega, h3, h4⟩
     ·intro h4; exact h4.2.2
    ·rw [← key']
     exact ⟨(fun h => by cases h), fun h4 => absurd h4.2.1 h3⟩
    ·exact ⟨(fun h => by cases h), fun h4 => by have := h4.1; clear key key' h4; omega⟩
    ·exact ⟨(fun h => by cases h), fun h4 => by have := h4.1; clear key key' h4; omega⟩
   rintro ⟨x, _⟩ w3 ⟨hx, rfl⟩
   refine sif_r (fun h => ?_) (fun h => ?_)
   ·obtain ⟨h54, d, f, r'', rfl, h55⟩ := hx.1 h
    have hd := d.toNat_lt; have hf := f.toNat_lt
    have hv : un be d f < 65536 := by unfold un; split <;> omega
    have := hK w2 e12
    show K ((IntKind.wrap .i64 ((IntKind.wrap .i64 ((IntKind.wrap .i64 ((65536 : Int) + (IntKind.wrap .i64 ((IntKind.wrap .i64 (((un be b c : Nat) : Int) - (55296 : Int))) * (1024 : Int))))) + ((un be d f : Nat) : Int))) - (56320 : Int))), (4 : Int), ()) w2
    rw [wrap64 (a := ((un be b c : Nat) : Int) - 55296) (by omega) (by omega), wrap64 (a := (((un be b c : Nat) : Int) - 55296) * 1024) (by omega) (by omega), wrap64 (a := (65536 : Int) + _) (by omega) (by omega), wrap64 (a := (65536 : Int) + _ + _) (by omega) (by omega), wrap64 (by omega) (by omega)]
    have e4 : nx16 be (b :: c :: d :: f :: r'') = (65536 + ((un be b c % 1024 * 1024 + un be d f % 1024 : Nat) : Int), 4) := by
     simp only [nx16]; rw [if_pos h54, if_pos h55]
    rw [e4] at this
    have e5 : (65536 : Int) + (((un be b c : Nat) : Int) - 55296) * 1024 + ((un be d f : Nat) : Int) - 56320 = 65536 + ((un be b c % 1024 * 1024 + un be d f % 1024 : Nat) : Int) := by omega
    rw [e5]
    exact this
   ·have h : ¬ (un be b c / 1024 = 54 ∧ ∃ d f r'', r' = d :: f :: r'' ∧ un be d f / 1024 = 55) := fun hh => by have h1 := hx.2 hh; have h2 : x = false := h; rw [h2] at h1; cases h1
    have := hK w2 e12
    have e4 : nx16 be (b :: c :: r') = (((un be b c : Nat) : Int), 2) := by
     simp only [nx16]
     split
     ·rename_i h54
      split
      ·rename_i d f r''
       rw [if_neg (fun h55 => h ⟨h54, _, _, _, rfl, h55⟩)]
      ·rfl
     ·rfl
    rw [e4] at this
    exact this
 cases e with
 | u8 =>
  refine sif_r (fun _ => ?_) (fun h => by cases h)
  exact eightAt_call hs (by omega) hn fun w1 e1 => hK w1 e1
 | le => exact sif_r (fun h => by cases h) (fun _ => sif_r (fun h => by cases h) (fun _ => six false rfl rfl))
 | be => exact sif_r (fun h => by cases h) (fun _ => sif_r (fun h => by cases h) (fun _ => six true rfl rfl))
 | l1 =>
  refine sif_r (fun h => by cases h) (fun _ => sif_r (fun _ => ?_) (fun h => by cases h))
  refine ix_by hs (by omega) (b := b) (by rw [Int.toNat_natCast]; exact g0) fun p => ?_
  rw [wrap64 (a := (b.toNat : Int)) (by omega) (by omega)]
  have := hK w (Ext.refl w)
  rw [hr] at this
  exact this
theorem decode_call {e : Enc} {s : Sl} {l : Bs} (hs : By w s l) (hl : l.length < 2 ^ 40) {K : Sl × Int × Unit → World → Prop} (hK : ∀ s' w', SlOwn w' w.heap.size s' 3 1 (iv (atoms (ats e l))) → Ext w w' → K (s', 0, ()) w') :
  callT Tryz.prog 34 #[.int .i64 e.num, .slice s.a s.len s.cap] (.tup [(.one .sl), (.one (.int .i64))]) K w := by
 refine F34_calls ?_
 unfold F34
 have h1 := hs.len
 refine known_call (sif_r (fun h => by cases h) (fun _ => ?_))
 refine join_r (fun x w' => SlOwn w' w.heap.size x.1 3 1 (iv (atoms (ats e l))) ∧ Ext w w') ?_ (fun x w' h => hK _ _ h.1 h.2)
 refine sloop_r (fun x w' => ∃ j, j ≤ (ats e l).length ∧ x.2 = (((szs ((ats e l).take j) : Nat) : Int), ()) ∧ SlOwn w' w.heap.size x.1 3 1 (iv (atoms ((ats e l).take j))) ∧ Ext w w') (fun x _ => ((l.length : Int) - x.2.1).toNat) ⟨0, Nat.zero_le _, rfl, SlOwn.nil _ _ _ _, Ext.refl w⟩ ?_
 rintro ⟨r, _⟩ w1 ⟨j, hj, rfl, ho, e1⟩
 have hsj : szs ((ats e l).take j) ≤ l.length := pos_le j
 have hol := ho.len1
 dsimp only at ho hol ⊢
 rw [List.length_map, List.length_map, List.length_take] at hol
 refine sif_r (fun hc => ?_) (fun hc => ?_)
 ·simp only [decide_eq_true_eq] at hc
  obtain ⟨a, m, hqa, hnx, htk, hss, hm1, hsl⟩ := pos_step (e := e) (l := l) (j := j) (by omega)
  have hql : j < (ats e l).length := (List.getElem?_eq_some_iff.1 hqa).1
  refine rat_call (hs.ext e1) (by omega) (by omega) fun w2 e2 => ?_
  rw [hnx]
  refine newO_r fun b w3 e3 n3 hb3 hz3 => ?_
  have hal := szs_ge (ats_posd e l)
  rw [szs_all] at hal
  refine append_rx eInts eInts.ts_ (x := ⟨some (at0 b), 1, 1⟩) (ho.ext (e2.trans e3)) (iv_box n3) (fun v hv => by rw [List.mem_singleton.1 hv]; rfl) (by
   show (r.len + 1 + (r.len + 1) / 4 + 512) * 8 ≤ 2 ^ 48
   omega) (by have := e1.size; have := e2.size; omega) fun s' w4 o4 l4 u4 b4 => ?_
  have e4 : iv (atoms ((ats e l).take j)) ++ [.int .i64 a] = iv (atoms ((ats e l).take (j + 1))) := by rw [htk]; simp
  rw [e4] at o4
  have ew : IntKind.wrap .i64 (((szs ((ats e l).take j) : Nat) : Int) + (m : Int)) = ((szs ((ats e l).take (j + 1)) : Nat) : Int) := by rw [wrap64 (by omega) (by omega)]; omega
  refine ⟨⟨j + 1, by omega, by dsimp only; rw [ew], o4, ((e1.trans e2).trans e3).step u4 fun k hk => ho.blk_ge hk⟩, ?_⟩
  dsimp only
  rw [ew]; omega
 ·simp only [decide_eq_false_iff_not] at hc
  have := pos_end (e := e) (l := l) (j := j) (by omega)
  rw [this] at ho
  exact ⟨ho, e1⟩
end
end Go.Proofs.YtabcpghhfeplaaaGreat
namespace Go.Proofs.YtabcpghhfeplaaaGreat
open Go Go.Vx
noncomputable def F8 (a0 : (Int × Sl × Unit)) (a1 : (Int × Sl × Unit)) (a2 : Sl) (K : Bool → World → Prop) : World → Prop :=
 newO (.cells #[(.int .i64 a0.1), (.slice a0.2.1.a a0.2.1.len a0.2.1.cap)] 24) fun b1 =>
 newO (.cells #[(.int .i64 a1.1), (.slice a1.2.1.a a1.2.1.len a1.2.1.cap)] 24) fun b2 =>
 lds c24 (at0 b1) fun (x3 : (Int × Sl × Unit)) =>
 lds c24 (at0 b2) fun (x4 : (Int × Sl × Unit)) =>
 callT Tryz.prog 25 #[(.agg (Cells.vals c24 x3).toArray), (.agg (Cells.vals c24 x4).toArray), (.slice a2.a a2.len a2.cap), (.int .i64 (3 : Int)), (.int .i64 (3 : Int))] (.one (.one .bool)) fun (x5 : Bool) =>
 K x5
noncomputable def h8 : Hint := (hS (hR 3) (hS (hR 5) hL))
theorem F8_calls {a0 : (Int × Sl × Unit)} {a1 : (Int × Sl × Unit)} {a2 : Sl} {K : Bool → World → Prop} {w : World} (h : F8 a0 a1 a2 K w) : callT Tryz.prog 8 #[(.agg (Cells.vals c24 a0).toArray), (.agg (Cells.vals c24 a1).toArray), (.slice a2.a a2.len a2.cap)] (.one (.one .bool)) K w := tied tabOk Tryz.func8 h8 [(.agg (Cells.vals c24 a0).toArray), (.agg (Cells.vals c24 a1).toArray), (.slice a2.a a2.len a2.cap)] (by kernel_rfl) h
noncomputable def F16 (a0 : (Int × Sl × Unit)) (K : ((Option Addr × Sl × Unit) × Bool × Unit) → World → Prop) : World → Prop :=
 newO (.cells #[(.int .i64 a0.1), (.slice a0.2.1.a a0.2.1.len a0.2.1.cap)] 24) fun b1 =>
 newO (.cells #[(.pointer none), (.slice none 0 0)] 28) fun b2 =>
 ld (.int .i64) (at0 b1) fun (x3 : Int) =>
 join (S := Sl × Unit) (fun J4 =>
 sloop (S := Sl × Int × Unit) (fun (s6 : Sl × Int × Unit) again7 =>
 join (S := Bool × Unit) (fun J8 =>
 ld (.sl) (⟨b1, 1, none⟩ : Addr) fun (x10 : Sl) =>
 sif (decide (s6.2.1 < ((x10.len : Nat) : Int))) (
 J8 ((decide (s6.2.1 < (50000 : Int))), ())) (
 J8 (false, ()))) fun (s9 : Bool × Unit) =>
 sif s9.1 (
 ld (.sl) (⟨b1, 1, none⟩ : Addr) fun (x11 : Sl) =>
 ix x11.a x11.len s6.2.1 fun p12 =>
 ld (.int .u8) (p12.add (scaled (Int.toNat s6.2.1) 1)) fun (x13 : Int) =>
 newO (.cells #[(.int .u8 x13)] 5) fun b14 =>
 rawT Tryz.prog (.one (.one .sl)) (Builtin.append_ #[22, 22] 22 #[(.slice s6.1.a s6.1.len s6.1.cap), (.slice (some (at0 b14)) 1 1)]) fun (x15 : Sl) =>
 again7 (x15, (IntKind.wrap .i64 (s6.2.1 + (1 : Int))), ())) (
 J4 (s6.1, ()))) (⟨none, 0, 0⟩, (0 : Int), ())) fun (s5 : Sl × Unit) =>
 callT Tryz.prog 34 #[(.int .i64 (IntKind.wrap .i64 ((1 : Int) + (IntKind.wrap .i64 ((BitVec.toNat (BitVec.ofInt (IntKind.bits .i64) x3 &&& BitVec.ofInt (IntKind.bits .i64) (3 : Int)) : Nat) : Int))))), (.slice s5.1.a s5.1.len s5.1.cap)] (.tup [(.one .sl), (.one (.int .i64))]) fun (x16 : (Sl × Int × Unit)) =>
 callT Tryz.prog 35 #[(.int .i64 (IntKind.wrap .i64 ((1 : Int) + (IntKind.wrap .i64 ((BitVec.toNat (BitVec.ofInt (IntKind.bits .i64) x3 &&& BitVec.ofInt (IntKind.bits .i64) (3 : Int)) : Nat) : Int))))), (.slice s5.1.a s5.1.len s5.1.cap), (.int .i64 (65536 : Int))] (.tup [(.one .ptr), (.one (.int .i64))]) fun (x17 : (Option Addr × Int × Unit)) =>
 join (S := Bool × Unit) (fun J18 =>
 sif (Option.isNone x17.1) (
 J18 (true, ())) (
 J18 ((x17.2.1 != (0 : Int)), ()))) fun (s19 : Bool × Unit) =>
 sif s19.1 (
 aggSt (at0 b2) (.agg #[(.pointer none), (.slice none 0 0)]) 2 <|
 lds c28 (at0 b2) fun (x20 : (Option Addr × Sl × Unit)) =>
 K (x20, false, ())) (
 callT Tryz.prog 36 #[(.pointer x17.1), (.slice x16.1.a x16.1.len x16.1.cap)] (.one (.one .bool)) fun (x21 : Bool) =>
 aggSt (at0 b2) (.agg #[(.pointer x17.1), (.slice x16.1.a x16.1.len x16.1.cap)]) 2 <|
 lds c28 (at0 b2) fun (x22 : (Option Addr × Sl × Unit)) =>
 K (x22, x21, ()))
noncomputable def h16 : Hint := (hS (hR 3) (hS (hR 5) (hS (hR 1) (hJ (17179836512, [(5, tS)]) (hS (hR 1) (.block (.loop 17179836512 [(5, tS), (6, tI)] (hS (hJ (16744448, [(23, tB)]) (.region [] (.ops 6 (.split 20 (hO 3) (.skips 2 (hO 1))))) (hC hL hL)) (hS (.block (hR 9)) (hR 3)))))) (hS (hR 8) (hS (hR 8) (hS (hJ (4433230883192832, [(51, tB)]) (.region [] (.ops 3 (.split 48 (.skips 2 (hO 1)) (hO 3)))) (hC (hS (hR 3) hL) hL)) (hS (hR 8) hL))))))))
theorem F16_calls {a0 : (Int × Sl × Unit)} {K : ((Option Addr × Sl × Unit) × Bool × Unit) → World → Prop} {w : World} (h : F16 a0 K w) : callT Tryz.prog 16 #[(.agg (Cells.vals c24 a0).toArray)] (.tup [(.agg c28), (.one .bool)]) K w := tied tabOk Tryz.func16 h16 [(.agg (Cells.vals c24 a0).toArray)] (by kernel_rfl) h
noncomputable def F17 (a0 : Int) (K : Bool → World → Prop) : World → Prop :=
 newO (.cells #[(.int .u8 (40 : Int)), (.int .u8 (34 : Int)), (.int .u8 (120 : Int)), (.int .u8 (34 : Int)), (.int .u8 (41 : Int))] 5) fun b1 =>
 rawT Tryz.prog (.one (.one .sl)) (convert 22 22 (.slice (some (at0 b1)) 5 5)) fun x2 =>
 callT Tryz.prog 16 #[(.agg #[(.int .i64 (0 : Int)), (.slice x2.a x2.len x2.cap)])] (.tup [(.agg c28), (.one .bool)]) fun (x3 : ((Option Addr × Sl × Unit) × Bool × Unit)) =>
 newO (.cells #[(.pointer none), (.slice none 0 0)] 28) fun b4 =>
 aggSt (at0 b4) (.agg (Cells.vals c28 x3.1).toArray) 2 <|
 sif (!x3.2.1) (
 K false) (
 newO (.cells #[(.int .i64 (0 : Int)), (.int .i64 (0 : Int)), (.int .i64 (0 : Int))] 34) fun b5 =>
 join (S := Int × Unit) (fun J6 =>
 sif (a0 == (1 : Int)) (
 ld (.ptr) (at0 b4) fun (x8 : Option Addr) =>
 callT Tryz.prog 29 #[(.pointer x8), (.int .i64 (2 : Int)), (.agg #[(.int .i64 (61 : Int)), (.int .i64 (0 : Int)), (.int .i64 (0 : Int))])] (.tup [(.agg c34), (.one (.int .i64))]) fun (x9 : ((Int × Int × Int × Unit) × Int × Unit)) =>
 aggSt (at0 b5) (.agg (Cells.vals c34 x9.1).toArray) 3 <|
 J6 (x9.2.1, ())) (
 sif (a0 == (2 : Int)) (
 ld (.ptr) (at0 b4) fun (x10 : Option Addr) =>
 callT Tryz.prog 31 #[(.pointer x10), (.int .i64 (2 : Int)), (.agg #[(.int .i64 (65 : Int)), (.int .i64 (0 : Int)), (.int .i64 (34 : Int))])] (.tup [(.agg c34), (.one (.int .i64))]) fun (x11 : ((Int × Int × Int × Unit) × Int × Unit)) =>
 aggSt (at0 b5) (.agg (Cells.vals c34 x11.1).toArray) 3 <|
 J6 (x11.2.1, ())) (
 sif (a0 == (3 : Int)) (
 ld (.ptr) (at0 b4) fun (x12 : Option Addr) =>
 callT Tryz.prog 19 #[(.pointer x12), (.int .i64 (2 : Int)), (.agg #[(.int .i64 (67 : Int)), (.int .i64 (0 : Int)), (.int .i64 (40 : Int))])] (.tup [(.agg c34), (.one (.int .i64))]) fun (x13 : ((Int × Int × Int × Unit) × Int × Unit)) =>
 aggSt (at0 b5) (.agg (Cells.vals c34 x13.1).toArray) 3 <|
 sif (x13.2.1 == (0 : Int)) (
 ld (.int .i64) (at0 b5) fun (x14 : Int) =>
 sif (x14 == (1 : Int)) (
 ld (.int .i64) (⟨b5, 1, none⟩ : Addr) fun (x15 : Int) =>
 K (x15 == (4 : Int))) (
 K false)) (
 K false)) (
 sif (a0 == (4 : Int)) (
 ld (.ptr) (at0 b4) fun (x16 : Option Addr) =>
 callT Tryz.prog 33 #[(.pointer x16), (.int .i64 (2 : Int)), (.agg #[(.int .i64 (69 : Int)), (.int .i64 (0 : Int)), (.int .i64 (0 : Int))])] (.tup [(.agg c34), (.one (.int .i64))]) fun (x17 : ((Int × Int × Int × Unit) × Int × Unit)) =>
 aggSt (at0 b5) (.agg (Cells.vals c34 x17.1).toArray) 3 <|
 sif (x17.2.1 == (0 : Int)) (
 ld (.int .i64) (⟨b5, 2, none⟩ : Addr) fun (x18 : Int) =>
 sif (x18 == (1 : Int)) (
 ld (.int .i64) (⟨b5, 1, none⟩ : Addr) fun (x19 : Int) =>
 K (x19 == (5 : Int))) (
 K false)) (
 K false)) (
 sif (a0 == (5 : Int)) (
 ld (.ptr) (at0 b4) fun (x20 : Option Addr) =>
 callT Tryz.prog 20 #[(.pointer x20), (.int .i64 (2 : Int)), (.agg #[(.int .i64 (61 : Int)), (.int .i64 (0 : Int)), (.int .i64 (0 : Int))])] (.tup [(.agg c34), (.one (.int .i64))]) fun (x21 : ((Int × Int × Int × Unit) × Int × Unit)) =>
 aggSt (at0 b5) (.agg (Cells.vals c34 x21.1).toArray) 3 <|
 J6 (x21.2.1, ())) (
 J6 ((0 : Int), ()))))))) fun (s7 : Int × Unit) =>
 sif (s7.1 == (0 : Int)) (
 ld (.int .i64) (at0 b5) fun (x22 : Int) =>
 sif (x22 == (2 : Int)) (
 ld (.int .i64) (⟨b5, 1, none⟩ : Addr) fun (x23 : Int) =>
 sif (x23 == (3 : Int)) (
 ld (.int .i64) (⟨b5, 2, none⟩ : Addr) fun (x24 : Int) =>
 K (x24 == (0 : Int))) (
 K false)) (
 K false)) (
 K false))
noncomputable def h17 : Hint := (hS (hR 1) (hS (hR 10) (hS (hS (hR 2) (hC (hS (hR 1) hL) hL)) (hS (hR 1) (hS (hR 1) (hJ (77371252455336267181129796, [(6, tI)]) (hS (hR 1) (.block (hS (hR 2) (hC (hR 9) (hS (hR 2) (hC (hR 9) (hS (hR 2) (hC (hS (hR 9) (hS (.region [] (.ops 3 (.split 46 (.ops 5 (.split 51 (hO 5) (.skips 3 (hO 2)))) (.skips 3 (.ops 2 (.skips 3 (hO 2))))))) hL)) (hS (hR 2) (hC (hS (hR 9) (hS (.region [] (.ops 3 (.split 67 (.ops 5 (.split 72 (hO 5) (.skips 3 (hO 2)))) (.skips 3 (.ops 2 (.skips 3 (hO 2))))))) hL)) (hS (hR 2) (hC (hR 9) hL)))))))))))) (hS (.region [] (.ops 3 (.split 88 (.ops 5 (.split 93 (.ops 5 (.split 98 (hO 5) (.skips 3 (hO 2)))) (.skips 3 (.ops 2 (.skips 3 (hO 2)))))) (.skips 3 (.ops 2 (.skips 3 (.ops 2 (.skips 3 (hO 2))))))))) hL)))))))
theorem F17_calls {a0 : Int} {K : Bool → World → Prop} {w : World} (h : F17 a0 K w) : callT Tryz.prog 17 #[(.int .i64 a0)] (.one (.one .bool)) K w := tied tabOk Tryz.func17 h17 [(.int .i64 a0)] (by kernel_rfl) h
noncomputable def F18 (a0 : Int) (a1 : Int) (K : Int → World → Prop) : World → Prop :=
 join (S := Int × Unit) (fun J1 =>
 sif (decide (a0 < (0 : Int))) (
 J1 ((IntKind.wrap .i64 (0 - (IntKind.wrap .i64 (a0 + (1 : Int))))), ())) (
 J1 (a0, ()))) fun (s2 : Int × Unit) =>
 chk ((IntKind.wrap .i64 (a1 + (1 : Int))) ≠ 0) <|
 K (Int.tmod s2.1 (IntKind.wrap .i64 (a1 + (1 : Int))))
noncomputable def h18 : Hint := (hS (hR 1) (hJ (993, [(0, tI)]) (hS (hR 2) (hC (hR 4) hL)) (hS (hR 5) hL)))
theorem F18_calls {a0 : Int} {a1 : Int} {K : Int → World → Prop} {w : World} (h : F18 a0 a1 K w) : callT Tryz.prog 18 #[(.int .i64 a0), (.int .i64 a1)] (.one (.one (.int .i64))) K w := tied tabOk Tryz.func18 h18 [(.int .i64 a0), (.int .i64 a1)] (by kernel_rfl) h
noncomputable def F25 (a0 : (Int × Sl × Unit)) (a1 : (Int × Sl × Unit)) (a2 : Sl) (a3 : Int) (a4 : Int) (K : Bool → World → Prop) : World → Prop :=
 newO (.cells #[(.int .i64 a0.1), (.slice a0.2.1.a a0.2.1.len a0.2.1.cap)] 24) fun b1 =>
 newO (.cells #[(.int .i64 a1.1), (.slice a1.2.1.a a1.2.1.len a1.2.1.cap)] 24) fun b2 =>
 lds c24 (at0 b1) fun (x3 : (Int × Sl × Unit)) =>
 callT Tryz.prog 16 #[(.agg (Cells.vals c24 x3).toArray)] (.tup [(.agg c28), (.one .bool)]) fun (x4 : ((Option Addr × Sl × Unit) × Bool × Unit)) =>
 newO (.cells #[(.pointer none), (.slice none 0 0)] 28) fun b5 =>
 aggSt (at0 b5) (.agg (Cells.vals c28 x4.1).toArray) 2 <|
 sif (!x4.2.1) (
 K false) (
 lds c24 (at0 b2) fun (x6 : (Int × Sl × Unit)) =>
 callT Tryz.prog 16 #[(.agg (Cells.vals c24 x6).toArray)] (.tup [(.agg c28), (.one .bool)]) fun (x7 : ((Option Addr × Sl × Unit) × Bool × Unit)) =>
 newO (.cells #[(.pointer none), (.slice none 0 0)] 28) fun b8 =>
 aggSt (at0 b8) (.agg (Cells.vals c28 x7.1).toArray) 2 <|
 join (S := Bool × Unit) (fun J9 =>
 sif (!x7.2.1) (
 J9 (true, ())) (
 callT Tryz.prog 17 #[(.int .i64 a3)] (.one (.one .bool)) fun (x11 : Bool) =>
 J9 ((!x11), ()))) fun (s10 : Bool × Unit) =>
 sif s10.1 (
 K false) (
 join (S := Unit) (fun J12 =>
 sloop (S := Int × Unit) (fun (s14 : Int × Unit) again15 =>
 join (S := Bool × Unit) (fun J16 =>
 sif (decide (s14.1 < ((a2.len : Nat) : Int))) (
 J16 ((decide (s14.1 < (200 : Int))), ())) (
 J16 (false, ()))) fun (s17 : Bool × Unit) =>
 sif s17.1 (
 join (S := Bool × Unit) (fun J18 =>
 ix a2.a a2.len s14.1 fun p20 =>
 ld (.int .i64) (p20.add (scaled (Int.toNat s14.1) 7)) fun (x21 : Int) =>
 sif (x21 == (0 : Int)) (
 ix a2.a a2.len s14.1 fun p22 =>
 lds c43 (p22.add (scaled (Int.toNat s14.1) 7)) fun (x23 : (Int × Int × Int × Int × Int × Int × Sl × Unit)) =>
 callT Tryz.prog 49 #[(.pointer (some (at0 b5))), (.agg (Cells.vals c43 x23).toArray), (.int .i64 a3), (.int .i64 a4)] (.one (.one .bool)) fun (x24 : Bool) =>
 J18 (x24, ())) (
 ix a2.a a2.len s14.1 fun p25 =>
 lds c43 (p25.add (scaled (Int.toNat s14.1) 7)) fun (x26 : (Int × Int × Int × Int × Int × Int × Sl × Unit)) =>
 callT Tryz.prog 49 #[(.pointer (some (at0 b8))), (.agg (Cells.vals c43 x26).toArray), (.int .i64 a3), (.int .i64 a4)] (.one (.one .bool)) fun (x27 : Bool) =>
 J18 (x27, ()))) fun (s19 : Bool × Unit) =>
 sif (!s19.1) (
 K false) (
 again15 ((IntKind.wrap .i64 (s14.1 + (1 : Int))), ()))) (
 J12 ())) ((0 : Int), ())) fun (s13 : Unit) =>
 K true))
noncomputable def h25 : Hint := (hS (hR 3) (hS (hR 8) (hS (hS (hR 2) (hC (hS (hR 1) hL) hL)) (hS (hR 8) (hS (hJ (17045651456, [(33, tB)]) (.region [] (.ops 3 (.split 29 (.skips 3 (hO 1)) (hO 4)))) (hC (hS (hR 1) hL) hL)) (hJ (73786976277658358784, []) (hS (hR 1) (.block (.loop 73786976277658358784 [(14, tI)] (hS (hJ (4380866641920, [(41, tB)]) (.region [] (.ops 5 (.split 38 (hO 3) (.skips 2 (hO 1))))) (hC hL hL)) (hS (.block (hJ (18446726481523511296, [(12, tB)]) (hS (hR 6) (hC (hR 8) (hR 8))) (hS (hR 2) (hC (hS (hR 1) hL) hL)))) (hR 3)))))) (hS (hR 1) hL)))))))
theorem F25_calls {a0 : (Int × Sl × Unit)} {a1 : (Int × Sl × Unit)} {a2 : Sl} {a3 : Int} {a4 : Int} {K : Bool → World → Prop} {w : World} (h : F25 a0 a1 a2 a3 a4 K w) : callT Tryz.prog 25 #[(.agg (Cells.vals c24 a0).toArray), (.agg (Cells.vals c24 a1).toArray), (.slice a2.a a2.len a2.cap), (.int .i64 a3), (.int .i64 a4)] (.one (.one .bool)) K w := tied tabOk Tryz.func25 h25 [(.agg (Cells.vals c24 a0).toArray), (.agg (Cells.vals c24 a1).toArray), (.slice a2.a a2.len a2.cap), (.int .i64 a3), (.int .i64 a4)] (by kernel_rfl) h
noncomputable def F26 (a0 : Sl) (K : Sl → World → Prop) : World → Prop :=
 join (S := Sl × Unit) (fun J1 =>
 sloop (S := Sl × Int × Unit) (fun (s3 : Sl × Int × Unit) again4 =>
 join (S := Bool × Unit) (fun J5 =>
 sif (decide (s3.2.1 < ((a0.len : Nat) : Int))) (
 J5 ((decide (s3.2.1 < (16 : Int))), ())) (
 J5 (false, ()))) fun (s6 : Bool × Unit) =>
 sif s6.1 (
 ix a0.a a0.len s3.2.1 fun p7 =>
 ld (.int .i64) (p7.add (scaled (Int.toNat s3.2.1) 1)) fun (x8 : Int) =>
 join (S := Int × Unit) (fun J9 =>
 join (S := Bool × Unit) (fun J11 =>
 sif (x8 != (10 : Int)) (
 J11 ((x8 != (13 : Int)), ())) (
 J11 (false, ()))) fun (s12 : Bool × Unit) =>
 sif s12.1 (
 J9 ((IntKind.wrap .i64 ((32 : Int) + (IntKind.wrap .i64 ((BitVec.toNat (BitVec.ofInt (IntKind.bits .i64) x8 &&& BitVec.ofInt (IntKind.bits .i64) (95 : Int)) : Nat) : Int)))), ())) (
 J9 (x8, ()))) fun (s10 : Int × Unit) =>
 newO (.cells #[(.int .i64 s10.1)] 3) fun b13 =>
 rawT Tryz.prog (.one (.one .sl)) (Builtin.append_ #[26, 26] 26 #[(.slice s3.1.a s3.1.len s3.1.cap), (.slice (some (at0 b13)) 1 1)]) fun (x14 : Sl) =>
 again4 (x14, (IntKind.wrap .i64 (s3.2.1 + (1 : Int))), ())) (
 J1 (s3.1, ()))) (⟨none, 0, 0⟩, (0 : Int), ())) fun (s2 : Sl × Unit) =>
 K s2.1
noncomputable def h26 : Hint := (hS (hR 1) (hS (hR 1) (hJ (8589934584, [(3, tS)]) (hS (hR 1) (.block (.loop 8589934584 [(3, tS), (4, tI)] (hS (hJ (16320, [(13, tB)]) (.region [] (.ops 5 (.split 10 (hO 3) (.skips 2 (hO 1))))) (hC hL hL)) (hS (.block (hS (hR 5) (hJ (535822368, [(5, tI)]) (hJ (66060288, [(25, tB)]) (.region [] (.ops 3 (.split 22 (hO 3) (.skips 2 (hO 1))))) (hC (hR 4) hL)) (hR 5)))) (hR 3)))))) (hS (hR 2) hL))))
theorem F26_calls {a0 : Sl} {K : Sl → World → Prop} {w : World} (h : F26 a0 K w) : callT Tryz.prog 26 #[(.slice a0.a a0.len a0.cap)] (.one (.one .sl)) K w := tied tabOk Tryz.func26 h26 [(.slice a0.a a0.len a0.cap)] (by kernel_rfl) h
noncomputable def F32 (a0 : Sl) (a1 : Sl) (K : Sl → World → Prop) : World → Prop :=
 callT Tryz.prog 46 #[(.slice a0.a a0.len a0.cap)] (.one (.one .sl)) fun (x1 : Sl) =>
 join (S := Sl × Unit) (fun J2 =>
 sloop (S := Sl × Int × Unit) (fun (s4 : Sl × Int × Unit) again5 =>
 sif (decide (s4.2.1 < ((a1.len : Nat) : Int))) (
 ix a1.a a1.len s4.2.1 fun p6 =>
 ld (.int .i64) (p6.add (scaled (Int.toNat s4.2.1) 1)) fun (x7 : Int) =>
 newO (.cells #[(.int .i64 x7)] 3) fun b8 =>
 rawT Tryz.prog (.one (.one .sl)) (Builtin.append_ #[26, 26] 26 #[(.slice s4.1.a s4.1.len s4.1.cap), (.slice (some (at0 b8)) 1 1)]) fun (x9 : Sl) =>
 again5 (x9, (IntKind.wrap .i64 (s4.2.1 + (1 : Int))), ())) (
 J2 (s4.1, ()))) (x1, (0 : Int), ())) fun (s3 : Sl × Unit) =>
 K s3.1
noncomputable def h32 : Hint := (hS (hR 1) (hS (hR 3) (hJ (4193888, [(5, tS)]) (hS (hR 1) (.block (.loop 4193888 [(5, tS), (6, tI)] (hS (hS (hR 4) (hC hL hL)) (hS (.block (hR 8)) (hR 3)))))) (hS (hR 2) hL))))
theorem F32_calls {a0 : Sl} {a1 : Sl} {K : Sl → World → Prop} {w : World} (h : F32 a0 a1 K w) : callT Tryz.prog 32 #[(.slice a0.a a0.len a0.cap), (.slice a1.a a1.len a1.cap)] (.one (.one .sl)) K w := tied tabOk Tryz.func32 h32 [(.slice a0.a a0.len a0.cap), (.slice a1.a a1.len a1.cap)] (by kernel_rfl) h
noncomputable def F36 (a0 : Option Addr) (a1 : Sl) (K : Bool → World → Prop) : World → Prop :=
 join (S := Unit) (fun J1 =>
 sloop (S := Int × Int × Unit) (fun (s3 : Int × Int × Unit) again4 =>
 sif (decide (s3.2.1 < ((a1.len : Nat) : Int))) (
 join (S := Int × Unit) (fun J5 =>
 join (S := Bool × Unit) (fun J7 =>
 ix a1.a a1.len s3.2.1 fun p9 =>
 ld (.int .i64) (p9.add (scaled (Int.toNat s3.2.1) 1)) fun (x10 : Int) =>
 sif (x10 == (10 : Int)) (
 J7 (true, ())) (
 ix a1.a a1.len s3.2.1 fun p11 =>
 ld (.int .i64) (p11.add (scaled (Int.toNat s3.2.1) 1)) fun (x12 : Int) =>
 sif (x12 == (13 : Int)) (
 sif ((IntKind.wrap .i64 (s3.2.1 + (1 : Int))) == ((a1.len : Nat) : Int)) (
 J7 (true, ())) (
 ix a1.a a1.len (IntKind.wrap .i64 (s3.2.1 + (1 : Int))) fun p13 =>
 ld (.int .i64) (p13.add (scaled (Int.toNat (IntKind.wrap .i64 (s3.2.1 + (1 : Int)))) 1)) fun (x14 : Int) =>
 J7 ((x14 != (10 : Int)), ()))) (
 J7 (false, ())))) fun (s8 : Bool × Unit) =>
 sif s8.1 (
 join (S := Bool × Unit) (fun J15 =>
 callT Tryz.prog 66 #[(.pointer a0), (.int .i64 (IntKind.wrap .i64 (s3.2.1 + (1 : Int))))] (.one (.one (.int .i64))) fun (x17 : Int) =>
 sif (x17 != (IntKind.wrap .i64 (s3.1 + (1 : Int)))) (
 J15 (true, ())) (
 callT Tryz.prog 67 #[(.pointer a0), (.int .i64 (IntKind.wrap .i64 (s3.1 + (1 : Int))))] (.one (.one (.int .i64))) fun (x18 : Int) =>
 J15 ((x18 != (IntKind.wrap .i64 (s3.2.1 + (1 : Int)))), ()))) fun (s16 : Bool × Unit) =>
 sif s16.1 (
 K false) (
 J5 ((IntKind.wrap .i64 (s3.1 + (1 : Int))), ()))) (
 J5 (s3.1, ()))) fun (s6 : Int × Unit) =>
 again4 (s6.1, (IntKind.wrap .i64 (s3.2.1 + (1 : Int))), ())) (
 J1 ())) ((0 : Int), (0 : Int), ())) fun (s2 : Unit) =>
 K true
noncomputable def h36 : Hint := (hS (hR 1) (hS (hR 1) (hJ (72057594037927920, []) (hS (hR 1) (.block (.loop 72057594037927920 [(5, tI), (6, tI)] (hS (hS (hR 4) (hC hL hL)) (hJ (72057594037919792, [(5, tI)]) (.block (hJ (1099511619584, [(39, tB)]) (.region [] (.ops 6 (.split 18 (.skips 20 (hO 1)) (.ops 6 (.split 24 (.ops 6 (.split 30 (.skips 6 (hO 3)) (hO 9))) (.skips 13 (hO 2))))))) (hC (hS (hR 3) (hJ (72053195991416832, [(55, tB)]) (.region [] (.ops 7 (.split 48 (.skips 6 (hO 1)) (hO 7)))) (hC (hS (hR 1) hL) hL))) hL))) (hR 3)))))) (hS (hR 1) hL))))
theorem F36_calls {a0 : Option Addr} {a1 : Sl} {K : Bool → World → Prop} {w : World} (h : F36 a0 a1 K w) : callT Tryz.prog 36 #[(.pointer a0), (.slice a1.a a1.len a1.cap)] (.one (.one .bool)) K w := tied tabOk Tryz.func36 h36 [(.pointer a0), (.slice a1.a a1.len a1.cap)] (by kernel_rfl) h
noncomputable def F46 (a0 : Sl) (K : Sl → World → Prop) : World → Prop :=
 join (S := Sl × Unit) (fun J1 =>
 sloop (S := Sl × Int × Unit) (fun (s3 : Sl × Int × Unit) again4 =>
 sif (decide (s3.2.1 < ((a0.len : Nat) : Int))) (
 ix a0.a a0.len s3.2.1 fun p5 =>
 ld (.int .i64) (p5.add (scaled (Int.toNat s3.2.1) 1)) fun (x6 : Int) =>
 newO (.cells #[(.int .i64 x6)] 3) fun b7 =>
 rawT Tryz.prog (.one (.one .sl)) (Builtin.append_ #[26, 26] 26 #[(.slice s3.1.a s3.1.len s3.1.cap), (.slice (some (at0 b7)) 1 1)]) fun (x8 : Sl) =>
 again4 (x8, (IntKind.wrap .i64 (s3.2.1 + (1 : Int))), ())) (
 J1 (s3.1, ()))) (⟨none, 0, 0⟩, (0 : Int), ())) fun (s2 : Sl × Unit) =>
 K s2.1
noncomputable def h46 : Hint := (hS (hR 1) (hS (hR 1) (hJ (262136, [(3, tS)]) (hS (hR 1) (.block (.loop 262136 [(3, tS), (4, tI)] (hS (hS (hR 4) (hC hL hL)) (hS (.block (hR 8)) (hR 3)))))) (hS (hR 2) hL))))
theorem F46_calls {a0 : Sl} {K : Sl → World → Prop} {w : World} (h : F46 a0 K w) : callT Tryz.prog 46 #[(.slice a0.a a0.len a0.cap)] (.one (.one .sl)) K w := tied tabOk Tryz.func46 h46 [(.slice a0.a a0.len a0.cap)] (by kernel_rfl) h
noncomputable def F49 (a0 : Option Addr) (a1 : (Int × Int × Int × Int × Int × Int × Sl × Unit)) (a2 : Int) (a3 : Int) (K : Bool → World → Prop) : World → Prop :=
 newO (.cells #[(.int .i64 a1.1), (.int .i64 a1.2.1), (.int .i64 a1.2.2.1), (.int .i64 a1.2.2.2.1), (.int .i64 a1.2.2.2.2.1), (.int .i64 a1.2.2.2.2.2.1), (.slice a1.2.2.2.2.2.2.1.a a1.2.2.2.2.2.2.1.len a1.2.2.2.2.2.2.1.cap)] 43) fun b1 =>
 ld (.int .i64) (⟨b1, 1, none⟩ : Addr) fun (x2 : Int) =>
 sif (x2 == (0 : Int)) (
 ld (.int .i64) (⟨b1, 2, none⟩ : Addr) fun (x3 : Int) =>
 ld (.int .i64) (⟨b1, 4, none⟩ : Addr) fun (x4 : Int) =>
 ld (.sl) (⟨b1, 6, none⟩ : Addr) fun (x5 : Sl) =>
 callT Tryz.prog 75 #[(.pointer a0), (.int .i64 x3), (.int .i64 x4), (.slice x5.a x5.len x5.cap)] (.one (.one .bool)) fun (x6 : Bool) =>
 K x6) (
 join (S := Bool × Unit) (fun J7 =>
 ld (.int .i64) (⟨b1, 1, none⟩ : Addr) fun (x9 : Int) =>
 sif (decide (x9 < a2)) (
 J7 (true, ())) (
 ld (.int .i64) (⟨b1, 1, none⟩ : Addr) fun (x10 : Int) =>
 J7 ((decide (x10 > a3)), ()))) fun (s8 : Bool × Unit) =>
 sif s8.1 (
 K true) (
 lds c43 (at0 b1) fun (x11 : (Int × Int × Int × Int × Int × Int × Sl × Unit)) =>
 callT Tryz.prog 76 #[(.pointer a0), (.agg (Cells.vals c43 x11).toArray)] (.one (.one .bool)) fun (x12 : Bool) =>
 K x12))
noncomputable def h49 : Hint := (hS (hR 2) (hS (hS (hR 3) (hC (hS (hR 9) hL) hL)) (hS (hJ (1072693248, [(29, tB)]) (.region [] (.ops 5 (.split 24 (.skips 4 (hO 1)) (hO 5)))) (hC (hS (hR 1) hL) hL)) (hS (hR 4) hL))))
theorem F49_calls {a0 : Option Addr} {a1 : (Int × Int × Int × Int × Int × Int × Sl × Unit)} {a2 : Int} {a3 : Int} {K : Bool → World → Prop} {w : World} (h : F49 a0 a1 a2 a3 K w) : callT Tryz.prog 49 #[(.pointer a0), (.agg (Cells.vals c43 a1).toArray), (.int .i64 a2), (.int .i64 a3)] (.one (.one .bool)) K w := tied tabOk Tryz.func49 h49 [(.pointer a0), (.agg (Cells.vals c43 a1).toArray), (.int .i64 a2), (.int .i64 a3)] (by kernel_rfl) h
noncomputable def F75 (a0 : Option Addr) (a1 : Int) (a2 : Int) (a3 : Sl) (K : Bool → World → Prop) : World → Prop :=
 nn a0 fun p1 =>
 ld (.sl) (p1.add 1) fun (x2 : Sl) =>
 callT Tryz.prog 18 #[(.int .i64 a1), (.int .i64 ((x2.len : Nat) : Int))] (.one (.one (.int .i64))) fun (x3 : Int) =>
 nn a0 fun p4 =>
 ld (.sl) (p4.add 1) fun (x5 : Sl) =>
 callT Tryz.prog 18 #[(.int .i64 a2), (.int .i64 (IntKind.wrap .i64 (((x5.len : Nat) : Int) - x3)))] (.one (.one (.int .i64))) fun (x6 : Int) =>
 callT Tryz.prog 26 #[(.slice a3.a a3.len a3.cap)] (.one (.one .sl)) fun (x7 : Sl) =>
 drew <|
 nn a0 fun p8 =>
 ld (.ptr) p8 fun (x9 : Option Addr) =>
 callT Tryz.prog 46 #[(.slice x7.a x7.len x7.cap)] (.one (.one .sl)) fun (x10 : Sl) =>
 keep (fun w => w.cell? p8 = some (Cell.val (.ptr) x9)) <|
 newO (.cells #[(.int .i64 x3), (.int .i64 (IntKind.wrap .i64 (x3 + x6))), (.slice x10.a x10.len x10.cap)] 83) fun b11 =>
 keep (fun w => w.cell? p8 = some (Cell.val (.ptr) x9)) <|
 callT Tryz.prog 50 #[(.pointer x9), (.slice (some (at0 b11)) 1 1)] (.one (.one (.int .i64))) fun (x12 : Int) =>
 sif (x12 != (0 : Int)) (
 K false) (
 nn a0 fun p13 =>
 ld (.sl) (p13.add 1) fun (x14 : Sl) =>
 callT Tryz.prog 103 #[(.slice x14.a x14.len x14.cap), (.int .i64 x3), (.int .i64 (IntKind.wrap .i64 (x3 + x6))), (.slice x7.a x7.len x7.cap)] (.one (.one .sl)) fun (x15 : Sl) =>
 nn a0 fun p16 =>
 stC (p16.add 1) (.slice x15.a x15.len x15.cap) <|
 K true)
noncomputable def h75 : Hint := (hS (hR 1) (hS (hR 8) (hS (hR 12) (hS (hR 3) (hS (.region [0, 1, 2, 3, 4, 5, 6, 7, 8, 9, 10, 11] (hO 12)) (hS (hS (hR 2) (hC (hS (hR 1) hL) hL)) (hS (hR 12) (hS (hR 1) hL))))))))
theorem F75_calls {a0 : Option Addr} {a1 : Int} {a2 : Int} {a3 : Sl} {K : Bool → World → Prop} {w : World} (h : F75 a0 a1 a2 a3 K w) : callT Tryz.prog 75 #[(.pointer a0), (.int .i64 a1), (.int .i64 a2), (.slice a3.a a3.len a3.cap)] (.one (.one .bool)) K w := tied tabOk Tryz.func75 h75 [(.pointer a0), (.int .i64 a1), (.int .i64 a2), (.slice a3.a a3.len a3.cap)] (by kernel_rfl) h
noncomputable def F76 (a0 : Option Addr) (a1 : (Int × Int × Int × Int × Int × Int × Sl × Unit)) (K : Bool → World → Prop) : World → Prop :=
 newO (.cells #[(.int .i64 a1.1), (.int .i64 a1.2.1), (.int .i64 a1.2.2.1), (.int .i64 a1.2.2.2.1), (.int .i64 a1.2.2.2.2.1), (.int .i64 a1.2.2.2.2.2.1), (.slice a1.2.2.2.2.2.2.1.a a1.2.2.2.2.2.2.1.len a1.2.2.2.2.2.2.1.cap)] 43) fun b1 =>
 ld (.int .i64) (⟨b1, 3, none⟩ : Addr) fun (x2 : Int) =>
 ld (.int .i64) (⟨b1, 4, none⟩ : Addr) fun (x3 : Int) =>
 ld (.int .i64) (⟨b1, 5, none⟩ : Addr) fun (x4 : Int) =>
 newO (.cells #[(.int .i64 (0 : Int)), (.int .i64 (0 : Int)), (.int .i64 (0 : Int))] 39) fun b5 =>
 aggSt (at0 b5) (.agg #[(.int .i64 x2), (.int .i64 x3), (.int .i64 x4)]) 3 <|
 ld (.int .i64) (⟨b1, 1, none⟩ : Addr) fun (x6 : Int) =>
 sif (x6 == (1 : Int)) (
 join (S := Addr × Int × Unit) (fun J7 =>
 drew <|
 nn a0 fun p9 =>
 ld (.ptr) p9 fun (x10 : Option Addr) =>
 ld (.int .i64) (⟨b1, 2, none⟩ : Addr) fun (x11 : Int) =>
 lds c39 (at0 b5) fun (x12 : (Int × Int × Int × Unit)) =>
 both (
 newO (.cells #[(.int .i64 (0 : Int)), (.int .i64 (0 : Int)), (.int .i64 (0 : Int))] 34) fun b13 =>
 keep (fun w => cellsAt w (at0 b5) 0 (Cells.vals c39 x12)) <|
 keep (fun w => w.cell? (⟨b1, 2, none⟩ : Addr) = some (Cell.val (.int .i64) x11)) <|
 keep (fun w => w.cell? p9 = some (Cell.val (.ptr) x10)) <|
 callT Tryz.prog 29 #[(.pointer x10), (.int .i64 x11), (.agg (Cells.vals c39 x12).toArray)] (.tup [(.agg c34), (.one (.int .i64))]) fun (x14 : ((Int × Int × Int × Unit) × Int × Unit)) =>
 aggSt (at0 b13) (.agg (Cells.vals c34 x14.1).toArray) 3 <|
 J7 ((at0 b13), x14.2.1, ())) <|
 callT Tryz.prog 29 #[(.pointer x10), (.int .i64 x11), (.agg (Cells.vals c39 x12).toArray)] (.tup [(.agg c34), (.one (.int .i64))]) fun (x15 : ((Int × Int × Int × Unit) × Int × Unit)) =>
 both (
 newO (.cells #[(.int .i64 (0 : Int)), (.int .i64 (0 : Int)), (.int .i64 (0 : Int))] 34) fun b16 =>
 keep (fun w => cellsAt w (at0 b5) 0 (Cells.vals c39 x12)) <|
 keep (fun w => w.cell? (⟨b1, 2, none⟩ : Addr) = some (Cell.val (.int .i64) x11)) <|
 keep (fun w => w.cell? p9 = some (Cell.val (.ptr) x10)) <|
 aggSt (at0 b16) (.agg (Cells.vals c34 x15.1).toArray) 3 <|
 J7 ((at0 b16), x15.2.1, ())) <|
 nothing) fun (s8 : Addr × Int × Unit) =>
 join (S := Addr × Int × Unit) (fun J17 =>
 drew <|
 nn a0 fun p19 =>
 ld (.sl) (p19.add 1) fun (x20 : Sl) =>
 ld (.int .i64) (⟨b1, 2, none⟩ : Addr) fun (x21 : Int) =>
 ld (.int .i64) (⟨b1, 3, none⟩ : Addr) fun (x22 : Int) =>
 ld (.int .i64) (⟨b1, 4, none⟩ : Addr) fun (x23 : Int) =>
 both (
 newO (.cells #[(.int .i64 (0 : Int)), (.int .i64 (0 : Int)), (.int .i64 (0 : Int))] 149) fun b24 =>
 keep (fun w => w.cell? (⟨b1, 4, none⟩ : Addr) = some (Cell.val (.int .i64) x23)) <|
 keep (fun w => w.cell? (⟨b1, 3, none⟩ : Addr) = some (Cell.val (.int .i64) x22)) <|
 keep (fun w => w.cell? (⟨b1, 2, none⟩ : Addr) = some (Cell.val (.int .i64) x21)) <|
 keep (fun w => w.cell? (p19.add 1) = some (Cell.val (.sl) x20)) <|
 callT Tryz.prog 104 #[(.slice x20.a x20.len x20.cap), (.int .i64 x21), (.int .i64 x22), (.int .i64 x23)] (.tup [(.agg c149), (.one (.int .i64))]) fun (x25 : ((Int × Int × Int × Unit) × Int × Unit)) =>
 aggSt (at0 b24) (.agg (Cells.vals c149 x25.1).toArray) 3 <|
 J17 ((at0 b24), x25.2.1, ())) <|
 callT Tryz.prog 104 #[(.slice x20.a x20.len x20.cap), (.int .i64 x21), (.int .i64 x22), (.int .i64 x23)] (.tup [(.agg c149), (.one (.int .i64))]) fun (x26 : ((Int × Int × Int × Unit) × Int × Unit)) =>
 both (
 newO (.cells #[(.int .i64 (0 : Int)), (.int .i64 (0 : Int)), (.int .i64 (0 : Int))] 149) fun b27 =>
 keep (fun w => w.cell? (⟨b1, 4, none⟩ : Addr) = some (Cell.val (.int .i64) x23)) <|
 keep (fun w => w.cell? (⟨b1, 3, none⟩ : Addr) = some (Cell.val (.int .i64) x22)) <|
 keep (fun w => w.cell? (⟨b1, 2, none⟩ : Addr) = some (Cell.val (.int .i64) x21)) <|
 keep (fun w => w.cell? (p19.add 1) = some (Cell.val (.sl) x20)) <|
 aggSt (at0 b27) (.agg (Cells.vals c149 x26.1).toArray) 3 <|
 J17 ((at0 b27), x26.2.1, ())) <|
 nothing) fun (s18 : Addr × Int × Unit) =>
 lds c34 s8.1 fun (x28 : (Int × Int × Int × Unit)) =>
 lds c149 s18.1 fun (x29 : (Int × Int × Int × Unit)) =>
 callT Tryz.prog 105 #[(.agg (Cells.vals c34 x28).toArray), (.int .i64 s8.2.1), (.agg (Cells.vals c149 x29).toArray), (.int .i64 s18.2.1)] (.one (.one .bool)) fun (x30 : Bool) =>
 K x30) (
 sif (x6 == (2 : Int)) (
 join (S := Addr × Int × Unit) (fun J31 =>
 drew <|
 nn a0 fun p33 =>
 ld (.ptr) p33 fun (x34 : Option Addr) =>
 ld (.int .i64) (⟨b1, 2, none⟩ : Addr) fun (x35 : Int) =>
 lds c39 (at0 b5) fun (x36 : (Int × Int × Int × Unit)) =>
 both (
 newO (.cells #[(.int .i64 (0 : Int)), (.int .i64 (0 : Int)), (.int .i64 (0 : Int))] 34) fun b37 =>
 keep (fun w => cellsAt w (at0 b5) 0 (Cells.vals c39 x36)) <|
 keep (fun w => w.cell? (⟨b1, 2, none⟩ : Addr) = some (Cell.val (.int .i64) x35)) <|
 keep (fun w => w.cell? p33 = some (Cell.val (.ptr) x34)) <|
 callT Tryz.prog 31 #[(.pointer x34), (.int .i64 x35), (.agg (Cells.vals c39 x36).toArray)] (.tup [(.agg c34), (.one (.int .i64))]) fun (x38 : ((Int × Int × Int × Unit) × Int × Unit)) =>
 aggSt (at0 b37) (.agg (Cells.vals c34 x38.1).toArray) 3 <|
 J31 ((at0 b37), x38.2.1, ())) <|
 callT Tryz.prog 31 #[(.pointer x34), (.int .i64 x35), (.agg (Cells.vals c39 x36).toArray)] (.tup [(.agg c34), (.one (.int .i64))]) fun (x39 : ((Int × Int × Int × Unit) × Int × Unit)) =>
 both (
 newO (.cells #[(.int .i64 (0 : Int)), (.int .i64 (0 : Int)), (.int .i64 (0 : Int))] 34) fun b40 =>
 keep (fun w => cellsAt w (at0 b5) 0 (Cells.vals c39 x36)) <|
 keep (fun w => w.cell? (⟨b1, 2, none⟩ : Addr) = some (Cell.val (.int .i64) x35)) <|
 keep (fun w => w.cell? p33 = some (Cell.val (.ptr) x34)) <|
 aggSt (at0 b40) (.agg (Cells.vals c34 x39.1).toArray) 3 <|
 J31 ((at0 b40), x39.2.1, ())) <|
 nothing) fun (s32 : Addr × Int × Unit) =>
 join (S := Addr × Int × Unit) (fun J41 =>
 drew <|
 nn a0 fun p43 =>
 ld (.sl) (p43.add 1) fun (x44 : Sl) =>
 ld (.int .i64) (⟨b1, 2, none⟩ : Addr) fun (x45 : Int) =>
 ld (.int .i64) (⟨b1, 3, none⟩ : Addr) fun (x46 : Int) =>
 ld (.int .i64) (⟨b1, 4, none⟩ : Addr) fun (x47 : Int) =>
 ld (.int .i64) (⟨b1, 5, none⟩ : Addr) fun (x48 : Int) =>
 both (
 newO (.cells #[(.int .i64 (0 : Int)), (.int .i64 (0 : Int)), (.int .i64 (0 : Int))] 149) fun b49 =>
 keep (fun w => w.cell? (⟨b1, 5, none⟩ : Addr) = some (Cell.val (.int .i64) x48)) <|
 keep (fun w => w.cell? (⟨b1, 4, none⟩ : Addr) = some (Cell.val (.int .i64) x47)) <|
 keep (fun w => w.cell? (⟨b1, 3, none⟩ : Addr) = some (Cell.val (.int .i64) x46)) <|
 keep (fun w => w.cell? (⟨b1, 2, none⟩ : Addr) = some (Cell.val (.int .i64) x45)) <|
 keep (fun w => w.cell? (p43.add 1) = some (Cell.val (.sl) x44)) <|
 callT Tryz.prog 106 #[(.slice x44.a x44.len x44.cap), (.int .i64 x45), (.int .i64 x46), (.int .i64 x47), (.int .i64 x48)] (.tup [(.agg c149), (.one (.int .i64))]) fun (x50 : ((Int × Int × Int × Unit) × Int × Unit)) =>
 aggSt (at0 b49) (.agg (Cells.vals c149 x50.1).toArray) 3 <|
 J41 ((at0 b49), x50.2.1, ())) <|
 callT Tryz.prog 106 #[(.slice x44.a x44.len x44.cap), (.int .i64 x45), (.int .i64 x46), (.int .i64 x47), (.int .i64 x48)] (.tup [(.agg c149), (.one (.int .i64))]) fun (x51 : ((Int × Int × Int × Unit) × Int × Unit)) =>
 both (
 newO (.cells #[(.int .i64 (0 : Int)), (.int .i64 (0 : Int)), (.int .i64 (0 : Int))] 149) fun b52 =>
 keep (fun w => w.cell? (⟨b1, 5, none⟩ : Addr) = some (Cell.val (.int .i64) x48)) <|
 keep (fun w => w.cell? (⟨b1, 4, none⟩ : Addr) = some (Cell.val (.int .i64) x47)) <|
 keep (fun w => w.cell? (⟨b1, 3, none⟩ : Addr) = some (Cell.val (.int .i64) x46)) <|
 keep (fun w => w.cell? (⟨b1, 2, none⟩ : Addr) = some (Cell.val (.int .i64) x45)) <|
 keep (fun w => w.cell? (p43.add 1) = some (Cell.val (.sl) x44)) <|
 aggSt (at0 b52) (.agg (Cells.vals c149 x51.1).toArray) 3 <|
 J41 ((at0 b52), x51.2.1, ())) <|
 nothing) fun (s42 : Addr × Int × Unit) =>
 lds c34 s32.1 fun (x53 : (Int × Int × Int × Unit)) =>
 lds c149 s42.1 fun (x54 : (Int × Int × Int × Unit)) =>
 callT Tryz.prog 105 #[(.agg (Cells.vals c34 x53).toArray), (.int .i64 s32.2.1), (.agg (Cells.vals c149 x54).toArray), (.int .i64 s42.2.1)] (.one (.one .bool)) fun (x55 : Bool) =>
 K x55) (
 sif (x6 == (3 : Int)) (
 join (S := Addr × Int × Unit) (fun J56 =>
 drew <|
 nn a0 fun p58 =>
 ld (.ptr) p58 fun (x59 : Option Addr) =>
 ld (.int .i64) (⟨b1, 2, none⟩ : Addr) fun (x60 : Int) =>
 lds c39 (at0 b5) fun (x61 : (Int × Int × Int × Unit)) =>
 both (
 newO (.cells #[(.int .i64 (0 : Int)), (.int .i64 (0 : Int)), (.int .i64 (0 : Int))] 34) fun b62 =>
 keep (fun w => cellsAt w (at0 b5) 0 (Cells.vals c39 x61)) <|
 keep (fun w => w.cell? (⟨b1, 2, none⟩ : Addr) = some (Cell.val (.int .i64) x60)) <|
 keep (fun w => w.cell? p58 = some (Cell.val (.ptr) x59)) <|
 callT Tryz.prog 19 #[(.pointer x59), (.int .i64 x60), (.agg (Cells.vals c39 x61).toArray)] (.tup [(.agg c34), (.one (.int .i64))]) fun (x63 : ((Int × Int × Int × Unit) × Int × Unit)) =>
 aggSt (at0 b62) (.agg (Cells.vals c34 x63.1).toArray) 3 <|
 J56 ((at0 b62), x63.2.1, ())) <|
 callT Tryz.prog 19 #[(.pointer x59), (.int .i64 x60), (.agg (Cells.vals c39 x61).toArray)] (.tup [(.agg c34), (.one (.int .i64))]) fun (x64 : ((Int × Int × Int × Unit) × Int × Unit)) =>
 both (
 newO (.cells #[(.int .i64 (0 : Int)), (.int .i64 (0 : Int)), (.int .i64 (0 : Int))] 34) fun b65 =>
 keep (fun w => cellsAt w (at0 b5) 0 (Cells.vals c39 x61)) <|
 keep (fun w => w.cell? (⟨b1, 2, none⟩ : Addr) = some (Cell.val (.int .i64) x60)) <|
 keep (fun w => w.cell? p58 = some (Cell.val (.ptr) x59)) <|
 aggSt (at0 b65) (.agg (Cells.vals c34 x64.1).toArray) 3 <|
 J56 ((at0 b65), x64.2.1, ())) <|
 nothing) fun (s57 : Addr × Int × Unit) =>
 join (S := Addr × Int × Unit) (fun J66 =>
 drew <|
 nn a0 fun p68 =>
 ld (.sl) (p68.add 1) fun (x69 : Sl) =>
 ld (.int .i64) (⟨b1, 2, none⟩ : Addr) fun (x70 : Int) =>
 ld (.int .i64) (⟨b1, 3, none⟩ : Addr) fun (x71 : Int) =>
 ld (.int .i64) (⟨b1, 4, none⟩ : Addr) fun (x72 : Int) =>
 ld (.int .i64) (⟨b1, 5, none⟩ : Addr) fun (x73 : Int) =>
 both (
 newO (.cells #[(.int .i64 (0 : Int)), (.int .i64 (0 : Int)), (.int .i64 (0 : Int))] 149) fun b74 =>
 keep (fun w => w.cell? (⟨b1, 5, none⟩ : Addr) = some (Cell.val (.int .i64) x73)) <|
 keep (fun w => w.cell? (⟨b1, 4, none⟩ : Addr) = some (Cell.val (.int .i64) x72)) <|
 keep (fun w => w.cell? (⟨b1, 3, none⟩ : Addr) = some (Cell.val (.int .i64) x71)) <|
 keep (fun w => w.cell? (⟨b1, 2, none⟩ : Addr) = some (Cell.val (.int .i64) x70)) <|
 keep (fun w => w.cell? (p68.add 1) = some (Cell.val (.sl) x69)) <|
 callT Tryz.prog 107 #[(.slice x69.a x69.len x69.cap), (.int .i64 x70), (.int .i64 x71), (.int .i64 x72), (.int .i64 x73)] (.tup [(.agg c149), (.one (.int .i64))]) fun (x75 : ((Int × Int × Int × Unit) × Int × Unit)) =>
 aggSt (at0 b74) (.agg (Cells.vals c149 x75.1).toArray) 3 <|
 J66 ((at0 b74), x75.2.1, ())) <|
 callT Tryz.prog 107 #[(.slice x69.a x69.len x69.cap), (.int .i64 x70), (.int .i64 x71), (.int .i64 x72), (.int .i64 x73)] (.tup [(.agg c149), (.one (.int .i64))]) fun (x76 : ((Int × Int × Int × Unit) × Int × Unit)) =>
 both (
 newO (.cells #[(.int .i64 (0 : Int)), (.int .i64 (0 : Int)), (.int .i64 (0 : Int))] 149) fun b77 =>
 keep (fun w => w.cell? (⟨b1, 5, none⟩ : Addr) = some (Cell.val (.int .i64) x73)) <|
 keep (fun w => w.cell? (⟨b1, 4, none⟩ : Addr) = some (Cell.val (.int .i64) x72)) <|
 keep (fun w => w.cell? (⟨b1, 3, none⟩ : Addr) = some (Cell.val (.int .i64) x71)) <|
 keep (fun w => w.cell? (⟨b1, 2, none⟩ : Addr) = some (Cell.val (.int .i64) x70)) <|
 keep (fun w => w.cell? (p68.add 1) = some (Cell.val (.sl) x69)) <|
 aggSt (at0 b77) (.agg (Cells.vals c149 x76.1).toArray) 3 <|
 J66 ((at0 b77), x76.2.1, ())) <|
 nothing) fun (s67 : Addr × Int × Unit) =>
 lds c34 s57.1 fun (x78 : (Int × Int × Int × Unit)) =>
 lds c149 s67.1 fun (x79 : (Int × Int × Int × Unit)) =>
 callT Tryz.prog 105 #[(.agg (Cells.vals c34 x78).toArray), (.int .i64 s57.2.1), (.agg (Cells.vals c149 x79).toArray), (.int .i64 s67.2.1)] (.one (.one .bool)) fun (x80 : Bool) =>
 K x80) (
 sif (x6 == (4 : Int)) (
 join (S := Addr × Int × Unit) (fun J81 =>
 drew <|
 nn a0 fun p83 =>
 ld (.ptr) p83 fun (x84 : Option Addr) =>
 ld (.int .i64) (⟨b1, 2, none⟩ : Addr) fun (x85 : Int) =>
 lds c39 (at0 b5) fun (x86 : (Int × Int × Int × Unit)) =>
 both (
 newO (.cells #[(.int .i64 (0 : Int)), (.int .i64 (0 : Int)), (.int .i64 (0 : Int))] 34) fun b87 =>
 keep (fun w => cellsAt w (at0 b5) 0 (Cells.vals c39 x86)) <|
 keep (fun w => w.cell? (⟨b1, 2, none⟩ : Addr) = some (Cell.val (.int .i64) x85)) <|
 keep (fun w => w.cell? p83 = some (Cell.val (.ptr) x84)) <|
 callT Tryz.prog 33 #[(.pointer x84), (.int .i64 x85), (.agg (Cells.vals c39 x86).toArray)] (.tup [(.agg c34), (.one (.int .i64))]) fun (x88 : ((Int × Int × Int × Unit) × Int × Unit)) =>
 aggSt (at0 b87) (.agg (Cells.vals c34 x88.1).toArray) 3 <|
 J81 ((at0 b87), x88.2.1, ())) <|
 callT Tryz.prog 33 #[(.pointer x84), (.int .i64 x85), (.agg (Cells.vals c39 x86).toArray)] (.tup [(.agg c34), (.one (.int .i64))]) fun (x89 : ((Int × Int × Int × Unit) × Int × Unit)) =>
 both (
 newO (.cells #[(.int .i64 (0 : Int)), (.int .i64 (0 : Int)), (.int .i64 (0 : Int))] 34) fun b90 =>
 keep (fun w => cellsAt w (at0 b5) 0 (Cells.vals c39 x86)) <|
 keep (fun w => w.cell? (⟨b1, 2, none⟩ : Addr) = some (Cell.val (.int .i64) x85)) <|
 keep (fun w => w.cell? p83 = some (Cell.val (.ptr) x84)) <|
 aggSt (at0 b90) (.agg (Cells.vals c34 x89.1).toArray) 3 <|
 J81 ((at0 b90), x89.2.1, ())) <|
 nothing) fun (s82 : Addr × Int × Unit) =>
 join (S := Addr × Int × Unit) (fun J91 =>
 drew <|
 nn a0 fun p93 =>
 ld (.sl) (p93.add 1) fun (x94 : Sl) =>
 ld (.int .i64) (⟨b1, 2, none⟩ : Addr) fun (x95 : Int) =>
 ld (.int .i64) (⟨b1, 3, none⟩ : Addr) fun (x96 : Int) =>
 ld (.int .i64) (⟨b1, 4, none⟩ : Addr) fun (x97 : Int) =>
 both (
 newO (.cells #[(.int .i64 (0 : Int)), (.int .i64 (0 : Int)), (.int .i64 (0 : Int))] 149) fun b98 =>
 keep (fun w => w.cell? (⟨b1, 4, none⟩ : Addr) = some (Cell.val (.int .i64) x97)) <|
 keep (fun w => w.cell? (⟨b1, 3, none⟩ : Addr) = some (Cell.val (.int .i64) x96)) <|
 keep (fun w => w.cell? (⟨b1, 2, none⟩ : Addr) = some (Cell.val (.int .i64) x95)) <|
 keep (fun w => w.cell? (p93.add 1) = some (Cell.val (.sl) x94)) <|
 callT Tryz.prog 108 #[(.slice x94.a x94.len x94.cap), (.int .i64 x95), (.int .i64 x96), (.int .i64 x97)] (.tup [(.agg c149), (.one (.int .i64))]) fun (x99 : ((Int × Int × Int × Unit) × Int × Unit)) =>
 aggSt (at0 b98) (.agg (Cells.vals c149 x99.1).toArray) 3 <|
 J91 ((at0 b98), x99.2.1, ())) <|
 callT Tryz.prog 108 #[(.slice x94.a x94.len x94.cap), (.int .i64 x95), (.int .i64 x96), (.int .i64 x97)] (.tup [(.agg c149), (.one (.int .i64))]) fun (x100 : ((Int × Int × Int × Unit) × Int × Unit)) =>
 both (
 newO (.cells #[(.int .i64 (0 : Int)), (.int .i64 (0 : Int)), (.int .i64 (0 : Int))] 149) fun b101 =>
 keep (fun w => w.cell? (⟨b1, 4, none⟩ : Addr) = some (Cell.val (.int .i64) x97)) <|
 keep (fun w => w.cell? (⟨b1, 3, none⟩ : Addr) = some (Cell.val (.int .i64) x96)) <|
 keep (fun w => w.cell? (⟨b1, 2, none⟩ : Addr) = some (Cell.val (.int .i64) x95)) <|
 keep (fun w => w.cell? (p93.add 1) = some (Cell.val (.sl) x94)) <|
 aggSt (at0 b101) (.agg (Cells.vals c149 x100.1).toArray) 3 <|
 J91 ((at0 b101), x100.2.1, ())) <|
 nothing) fun (s92 : Addr × Int × Unit) =>
 lds c34 s82.1 fun (x102 : (Int × Int × Int × Unit)) =>
 lds c149 s92.1 fun (x103 : (Int × Int × Int × Unit)) =>
 callT Tryz.prog 105 #[(.agg (Cells.vals c34 x102).toArray), (.int .i64 s82.2.1), (.agg (Cells.vals c149 x103).toArray), (.int .i64 s92.2.1)] (.one (.one .bool)) fun (x104 : Bool) =>
 K x104) (
 sif (x6 == (5 : Int)) (
 join (S := Addr × Int × Unit) (fun J105 =>
 drew <|
 nn a0 fun p107 =>
 ld (.ptr) p107 fun (x108 : Option Addr) =>
 ld (.int .i64) (⟨b1, 2, none⟩ : Addr) fun (x109 : Int) =>
 lds c39 (at0 b5) fun (x110 : (Int × Int × Int × Unit)) =>
 both (
 newO (.cells #[(.int .i64 (0 : Int)), (.int .i64 (0 : Int)), (.int .i64 (0 : Int))] 34) fun b111 =>
 keep (fun w => cellsAt w (at0 b5) 0 (Cells.vals c39 x110)) <|
 keep (fun w => w.cell? (⟨b1, 2, none⟩ : Addr) = some (Cell.val (.int .i64) x109)) <|
 keep (fun w => w.cell? p107 = some (Cell.val (.ptr) x108)) <|
 callT Tryz.prog 20 #[(.pointer x108), (.int .i64 x109), (.agg (Cells.vals c39 x110).toArray)] (.tup [(.agg c34), (.one (.int .i64))]) fun (x112 : ((Int × Int × Int × Unit) × Int × Unit)) =>
 aggSt (at0 b111) (.agg (Cells.vals c34 x112.1).toArray) 3 <|
 J105 ((at0 b111), x112.2.1, ())) <|
 callT Tryz.prog 20 #[(.pointer x108), (.int .i64 x109), (.agg (Cells.vals c39 x110).toArray)] (.tup [(.agg c34), (.one (.int .i64))]) fun (x113 : ((Int × Int × Int × Unit) × Int × Unit)) =>
 both (
 newO (.cells #[(.int .i64 (0 : Int)), (.int .i64 (0 : Int)), (.int .i64 (0 : Int))] 34) fun b114 =>
 keep (fun w => cellsAt w (at0 b5) 0 (Cells.vals c39 x110)) <|
 keep (fun w => w.cell? (⟨b1, 2, none⟩ : Addr) = some (Cell.val (.int .i64) x109)) <|
 keep (fun w => w.cell? p107 = some (Cell.val (.ptr) x108)) <|
 aggSt (at0 b114) (.agg (Cells.vals c34 x113.1).toArray) 3 <|
 J105 ((at0 b114), x113.2.1, ())) <|
 nothing) fun (s106 : Addr × Int × Unit) =>
 join (S := Addr × Int × Unit) (fun J115 =>
 drew <|
 nn a0 fun p117 =>
 ld (.sl) (p117.add 1) fun (x118 : Sl) =>
 ld (.int .i64) (⟨b1, 2, none⟩ : Addr) fun (x119 : Int) =>
 ld (.int .i64) (⟨b1, 3, none⟩ : Addr) fun (x120 : Int) =>
 ld (.int .i64) (⟨b1, 4, none⟩ : Addr) fun (x121 : Int) =>
 ld (.int .i64) (⟨b1, 5, none⟩ : Addr) fun (x122 : Int) =>
 both (
 newO (.cells #[(.int .i64 (0 : Int)), (.int .i64 (0 : Int)), (.int .i64 (0 : Int))] 149) fun b123 =>
 keep (fun w => w.cell? (⟨b1, 5, none⟩ : Addr) = some (Cell.val (.int .i64) x122)) <|
 keep (fun w => w.cell? (⟨b1, 4, none⟩ : Addr) = some (Cell.val (.int .i64) x121)) <|
 keep (fun w => w.cell? (⟨b1, 3, none⟩ : Addr) = some (Cell.val (.int .i64) x120)) <|
 keep (fun w => w.cell? (⟨b1, 2, none⟩ : Addr) = some (Cell.val (.int .i64) x119)) <|
 keep (fun w => w.cell? (p117.add 1) = some (Cell.val (.sl) x118)) <|
 callT Tryz.prog 109 #[(.slice x118.a x118.len x118.cap), (.int .i64 x119), (.int .i64 x120), (.int .i64 x121), (.int .i64 x122)] (.tup [(.agg c149), (.one (.int .i64))]) fun (x124 : ((Int × Int × Int × Unit) × Int × Unit)) =>
 aggSt (at0 b123) (.agg (Cells.vals c149 x124.1).toArray) 3 <|
 J115 ((at0 b123), x124.2.1, ())) <|
 callT Tryz.prog 109 #[(.slice x118.a x118.len x118.cap), (.int .i64 x119), (.int .i64 x120), (.int .i64 x121), (.int .i64 x122)] (.tup [(.agg c149), (.one (.int .i64))]) fun (x125 : ((Int × Int × Int × Unit) × Int × Unit)) =>
 both (
 newO (.cells #[(.int .i64 (0 : Int)), (.int .i64 (0 : Int)), (.int .i64 (0 : Int))] 149) fun b126 =>
 keep (fun w => w.cell? (⟨b1, 5, none⟩ : Addr) = some (Cell.val (.int .i64) x122)) <|
 keep (fun w => w.cell? (⟨b1, 4, none⟩ : Addr) = some (Cell.val (.int .i64) x121)) <|
 keep (fun w => w.cell? (⟨b1, 3, none⟩ : Addr) = some (Cell.val (.int .i64) x120)) <|
 keep (fun w => w.cell? (⟨b1, 2, none⟩ : Addr) = some (Cell.val (.int .i64) x119)) <|
 keep (fun w => w.cell? (p117.add 1) = some (Cell.val (.sl) x118)) <|
 aggSt (at0 b126) (.agg (Cells.vals c149 x125.1).toArray) 3 <|
 J115 ((at0 b126), x125.2.1, ())) <|
 nothing) fun (s116 : Addr × Int × Unit) =>
 lds c34 s106.1 fun (x127 : (Int × Int × Int × Unit)) =>
 lds c149 s116.1 fun (x128 : (Int × Int × Int × Unit)) =>
 callT Tryz.prog 105 #[(.agg (Cells.vals c34 x127).toArray), (.int .i64 s106.2.1), (.agg (Cells.vals c149 x128).toArray), (.int .i64 s116.2.1)] (.one (.one .bool)) fun (x129 : Bool) =>
 K x129) (
 K true)))))
noncomputable def h76 : Hint := (hS (hR 2) (hS (hR 9) (hS (hS (hR 2) (.block (hS (hR 2) (hC (hJ (281337537757376, [(6, (.one .addr)), (7, tI)]) (.region [0, 1, 2, 3, 4, 5, 6, 7, 8, 9, 10, 12, 13] (.float [11] (.ops 7 (.alt none (.plain (hO 6)) (.ops 4 (.alt none (.plain (hO 2)) .stop)))))) (hJ (4611404543450678016, [(8, (.one .addr)), (9, tI)]) (.region [0, 1, 2, 3, 4, 5, 6, 7, 8, 9, 10, 11, 12, 13, 15, 16] (.float [14] (.ops 10 (.alt none (.plain (hO 6)) (.ops 4 (.alt none (.plain (hO 2)) .stop)))))) (hS (hR 6) hL))) (hS (hR 2) (hC (hJ (1208335523804270469057536, [(10, (.one .addr)), (11, tI)]) (.region [0, 1, 2, 3, 4, 5, 6, 7, 8, 9, 10, 12, 13] (.float [11] (.ops 7 (.alt none (.plain (hO 6)) (.ops 4 (.alt none (.plain (hO 2)) .stop)))))) (hJ (79226953588444722964369256448, [(12, (.one .addr)), (13, tI)]) (.region [0, 1, 2, 3, 4, 5, 6, 7, 8, 9, 10, 11, 12, 13, 14, 15, 17, 18] (.float [16] (.ops 12 (.alt none (.plain (hO 6)) (.ops 4 (.alt none (.plain (hO 2)) .stop)))))) (hS (hR 6) hL))) (hS (hR 2) (hC (hJ (20759046229337484678910011691286528, [(14, (.one .addr)), (15, tI)]) (.region [0, 1, 2, 3, 4, 5, 6, 7, 8, 9, 10, 12, 13] (.float [11] (.ops 7 (.alt none (.plain (hO 6)) (.ops 4 (.alt none (.plain (hO 2)) .stop)))))) (hJ (1361108698496319714542984307741756162048, [(16, (.one .addr)), (17, tI)]) (.region [0, 1, 2, 3, 4, 5, 6, 7, 8, 9, 10, 11, 12, 13, 14, 15, 17, 18] (.float [16] (.ops 12 (.alt none (.plain (hO 6)) (.ops 4 (.alt none (.plain (hO 2)) .stop)))))) (hS (hR 6) hL))) (hS (hR 2) (hC (hJ (356637698604626449771278244563368718772207616, [(18, (.one .addr)), (19, tI)]) (.region [0, 1, 2, 3, 4, 5, 6, 7, 8, 9, 10, 12, 13] (.float [11] (.ops 7 (.alt none (.plain (hO 6)) (.ops 4 (.alt none (.plain (hO 2)) .stop)))))) (hJ (5845649737400435182844474759372769704839637630976, [(20, (.one .addr)), (21, tI)]) (.region [0, 1, 2, 3, 4, 5, 6, 7, 8, 9, 10, 11, 12, 13, 15, 16] (.float [14] (.ops 10 (.alt none (.plain (hO 6)) (.ops 4 (.alt none (.plain (hO 2)) .stop)))))) (hS (hR 6) hL))) (hS (hR 2) (hC (hJ (1531747252027575436064226740515958446712675284734181376, [(22, (.one .addr)), (23, tI)]) (.region [0, 1, 2, 3, 4, 5, 6, 7, 8, 9, 10, 12, 13] (.float [11] (.ops 7 (.alt none (.plain (hO 6)) (.ops 4 (.alt none (.plain (hO 2)) .stop)))))) (hJ (100432095270646026332514272424295512348454068372302418935808, [(24, (.one .addr)), (25, tI)]) (.region [0, 1, 2, 3, 4, 5, 6, 7, 8, 9, 10, 11, 12, 13, 14, 15, 17, 18] (.float [16] (.ops 12 (.alt none (.plain (hO 6)) (.ops 4 (.alt none (.plain (hO 2)) .stop)))))) (hS (hR 6) hL))) hL)))))))))))) (hS (hR 1) hL))))
theorem F76_calls {a0 : Option Addr} {a1 : (Int × Int × Int × Int × Int × Int × Sl × Unit)} {K : Bool → World → Prop} {w : World} (h : F76 a0 a1 K w) : callT Tryz.prog 76 #[(.pointer a0), (.agg (Cells.vals c43 a1).toArray)] (.one (.one .bool)) K w := tied tabOk Tryz.func76 h76 [(.pointer a0), (.agg (Cells.vals c43 a1).toArray)] (by kernel_rfl) h
noncomputable def F103 (a0 : Sl) (a1 : Int) (a2 : Int) (a3 : Sl) (K : Sl → World → Prop) : World → Prop :=
 slc a0.a 0 a1 ((a0.cap : Nat) : Int) a0.cap 1 fun x1 =>
 callT Tryz.prog 32 #[(.slice x1.a x1.len x1.cap), (.slice a3.a a3.len a3.cap)] (.one (.one .sl)) fun (x2 : Sl) =>
 slc a0.a a2 ((a0.len : Nat) : Int) ((a0.cap : Nat) : Int) a0.cap 1 fun x3 =>
 callT Tryz.prog 32 #[(.slice x2.a x2.len x2.cap), (.slice x3.a x3.len x3.cap)] (.one (.one .sl)) fun (x4 : Sl) =>
 K x4
noncomputable def h103 : Hint := (hS (hR 1) (hS (hR 6) (hS (hR 6) hL)))
theorem F103_calls {a0 : Sl} {a1 : Int} {a2 : Int} {a3 : Sl} {K : Sl → World → Prop} {w : World} (h : F103 a0 a1 a2 a3 K w) : callT Tryz.prog 103 #[(.slice a0.a a0.len a0.cap), (.int .i64 a1), (.int .i64 a2), (.slice a3.a a3.len a3.cap)] (.one (.one .sl)) K w := tied tabOk Tryz.func103 h103 [(.slice a0.a a0.len a0.cap), (.int .i64 a1), (.int .i64 a2), (.slice a3.a a3.len a3.cap)] (by kernel_rfl) h
noncomputable def F105 (a0 : (Int × Int × Int × Unit)) (a1 : Int) (a2 : (Int × Int × Int × Unit)) (a3 : Int) (K : Bool → World → Prop) : World → Prop :=
 newO (.cells #[(.int .i64 a0.1), (.int .i64 a0.2.1), (.int .i64 a0.2.2.1)] 34) fun b1 =>
 newO (.cells #[(.int .i64 a2.1), (.int .i64 a2.2.1), (.int .i64 a2.2.2.1)] 149) fun b2 =>
 ld (.int .i64) (at0 b1) fun (x3 : Int) =>
 ld (.int .i64) (at0 b2) fun (x4 : Int) =>
 sif (x3 == x4) (
 ld (.int .i64) (⟨b1, 1, none⟩ : Addr) fun (x5 : Int) =>
 ld (.int .i64) (⟨b2, 1, none⟩ : Addr) fun (x6 : Int) =>
 sif (x5 == x6) (
 ld (.int .i64) (⟨b1, 2, none⟩ : Addr) fun (x7 : Int) =>
 ld (.int .i64) (⟨b2, 2, none⟩ : Addr) fun (x8 : Int) =>
 sif (x7 == x8) (
 K (a1 == a3)) (
 K false)) (
 K false)) (
 K false)
noncomputable def h105 : Hint := (hS (hR 3) (hS (.region [] (.ops 6 (.split 14 (.ops 7 (.split 21 (.ops 7 (.split 28 (hO 5) (.skips 3 (hO 2)))) (.skips 5 (.ops 2 (.skips 3 (hO 2)))))) (.skips 5 (.ops 2 (.skips 5 (.ops 2 (.skips 3 (hO 2))))))))) hL))
theorem F105_calls {a0 : (Int × Int × Int × Unit)} {a1 : Int} {a2 : (Int × Int × Int × Unit)} {a3 : Int} {K : Bool → World → Prop} {w : World} (h : F105 a0 a1 a2 a3 K w) : callT Tryz.prog 105 #[(.agg (Cells.vals c34 a0).toArray), (.int .i64 a1), (.agg (Cells.vals c149 a2).toArray), (.int .i64 a3)] (.one (.one .bool)) K w := tied tabOk Tryz.func105 h105 [(.agg (Cells.vals c34 a0).toArray), (.int .i64 a1), (.agg (Cells.vals c149 a2).toArray), (.int .i64 a3)] (by kernel_rfl) h
end Go.Proofs.YtabcpghhfeplaaaGreat
namespace Go.Proofs.YtabcpghhfeplaaaGreat
open Go Go.Vx Cdc Trx Gly Clu Lns Obx
section
variable {w w' : World} {S : Nat → Prop} {p : Nat} {e : Enc} {lim na : Nat} {O : Nat → Prop} {M : Parts}
abbrev In64 (x : Int) : Prop := -(2 ^ 63) ≤ x ∧ x < 2 ^ 63
def within (x : Int) (n : Nat) : Nat := (if x < 0 then -(x + 1) else x).toNat % (n + 1)
theorem within_le (x : Int) (n : Nat) : within x n ≤ n := by have := Nat.mod_lt (if x < 0 then -(x + 1) else x).toNat (show 0 < n + 1 by omega); unfold within; omega
theorem within_call {x : Int} {n : Nat} (hx : In64 x) (hn : n < 2 ^ 62) {K : Int → World → Prop} (hK : K ((within x n : Nat) : Int) w) : callT Tryz.prog 18 #[.int .i64 x, .int .i64 (n : Int)] (.one (.one (.int .i64))) K w := by
 refine F18_calls ?_
 unfold F18
 have ew : IntKind.wrap .i64 ((n : Int) + 1) = ((n + 1 : Nat) : Int) := by rw [wrap64 (by omega) (by omega)]; omega
 rw [ew]
 refine join_r (fun y W => y = ((((if x < 0 then -(x + 1) else x).toNat : Nat) : Int), ()) ∧ w = W) ?_ ?_
 ·refine sif_r (fun h => ⟨?_, rfl⟩) (fun h => ⟨?_, rfl⟩)
  ·simp only [decide_eq_true_eq] at h
   rw [if_pos h, wrap64 (a := x + 1) (by omega) (by omega), wrap64 (by omega) (by omega)]
   congr 1; omega
  ·simp only [decide_eq_false_iff_not] at h
   rw [if_neg h]
   congr 1; omega
 rintro _ _ ⟨rfl, rfl⟩
 refine chk_r (by omega) ?_
 rw [Int.tmod_eq_emod_of_nonneg (by omega)]
 exact hK
theorem sk_isb {A : List Int} {i : Nat} (h : isb A i = true) : sk A (nb A i + 1) = some (i + 1) := by
 have hi := isb_lt h
 have hn : nb A (i + 1) = nb A i + 1 := by rw [nb_succ, h]; rfl
 have hle : nb A i + 1 ≤ brs A := by rw [← hn, brs_nb]; exact nb_mono A _ _ (by omega)
 obtain ⟨m, hm⟩ := sk_ok hle
 obtain ⟨_, _, h3, h4⟩ := sk_get hm
 rw [hm]
 have h1 : ¬ i + 1 < m := fun hc => by have := h4 _ hc; omega
 have h2 : ¬ m < i + 1 := fun hc => by have := nb_mono A m i (by omega); omega
 congr 1; omega
theorem lined_call {s : Sl} {t : TypeId} (h : Txt w p e lim na O M) (hs : SlIn w s t 1 (iv (atoms (aOf e M)))) {K : Bool → World → Prop} (hK : ∀ w', Ext w w' → K true w') :
  callT Tryz.prog 36 #[.pointer (some (at0 p)), .slice s.a s.len s.cap] (.one (.one .bool)) K w := by
 refine F36_calls ?_
 unfold F36
 have few := h.few; have lims := h.lims
 have hal := hal e M
 generalize hA : atoms (aOf e M) = A at *
 have hlen : A.length = s.len := by have := hs.len1; rwa [List.length_map] at this
 refine join_r (fun _ W => Ext w W) ?_ (fun _ W h => hK W h)
 refine sloop_r (fun x W => ∃ i : Nat, i ≤ A.length ∧ x = (((nb A i : Nat) : Int), (i : Int), ()) ∧ Ext w W) (fun x _ => ((A.length : Int) - x.2.1).toNat) ⟨0, Nat.zero_le _, by rw [nb_zero]; rfl, Ext.refl w⟩ ?_
 rintro _ W ⟨i, hi, rfl, e1⟩
 refine sif_r (fun hc => ?_) (fun _ => e1)
 simp only [decide_eq_true_eq] at hc
 have hil : i < A.length := by omega
 obtain ⟨a, ha⟩ : ∃ a, A[i]? = some a := ⟨_, List.getElem?_eq_getElem hil⟩
 have hnl := nb_le A i
 have ew : IntKind.wrap .i64 ((i : Int) + 1) = ((i + 1 : Nat) : Int) := by rw [wrap64 (by omega) (by omega)]; omega
 have ewn : IntKind.wrap .i64 (((nb A i : Nat) : Int) + 1) = ((nb A i + 1 : Nat) : Int) := by rw [wrap64 (by omega) (by omega)]; omega
 rw [ew, ewn]
 have hs1 := hs.ext e1
 have rd : ∀ {K : Addr → Int → World → Prop}, (∀ p, K p a W) → ix s.a s.len (i : Int) (fun p => ld (.int .i64) (p.add (scaled (Int.toNat (i : Int)) 1)) (K p)) W := fun hk => ix_ld (c := .int .i64) (xs := A) hs1 (by omega) (x := a) (by rw [Int.toNat_natCast]; exact ha) hk
 refine join_r (fun x W' => x = (((nb A (i + 1) : Nat) : Int), ()) ∧ Ext w W') ?_ ?_
 ·refine join_r (fun x W' => x = (isb A i, ()) ∧ W = W') ?_ ?_
  ·refine rd fun p1 => sif_r (fun h10 => ⟨tupb ?_, rfl⟩) (fun h10 => rd fun p2 => sif_r (fun h13 => sif_r (fun he => ⟨tupb ?_, rfl⟩) (fun he => ?_)) (fun h13 => ⟨tupb ?_, rfl⟩))
   all_goals simp only [beq_iff_eq, beq_eq_false_iff_ne, ne_eq, true_iff, Bool.false_eq_true, false_iff] at *
   ·exact (isb_iff ha).2 (.inl h10)
   ·exact (isb_iff ha).2 (.inr ⟨h13, by rw [List.getElem?_eq_none (by omega)]; intro h; cases h⟩)
   ·obtain ⟨b, hb⟩ : ∃ b, A[i + 1]? = some b := ⟨_, List.getElem?_eq_getElem (by omega)⟩
    refine ix_ld (c := .int .i64) (xs := A) hs1 (by omega) (x := b) (by rw [Int.toNat_natCast]; exact hb) fun p3 => ⟨tupb ?_, rfl⟩
    rw [isb_iff ha, hb, bne_iff_ne, ne_eq, ne_eq, Option.some.injEq]
    exact ⟨fun h => .inr ⟨h13, h⟩, fun h => h.elim (fun h => absurd h h10) fun h => h.2⟩
   ·rw [isb_iff ha]
    exact fun h => h.elim h10 fun h => h13 h.1
  rintro _ _ ⟨rfl, rfl⟩
  refine sif_r (fun hb => ?_) (fun hb => ?_)
  ·have hb : isb A i = true := hb
   have hn : nb A (i + 1) = nb A i + 1 := by rw [nb_succ, hb]; rfl
   refine join_r (fun x W' => x = (false, ()) ∧ Ext w W') ?_ ?_
   ·refine breaks_call (h.ext e1) fun w2 e2 => ?_
    rw [hA, Int.toNat_natCast, hn]
    refine sif_r (fun h => by simp at h) (fun _ => seek_call (h.ext (e1.trans e2)) fun w3 e3 => ⟨?_, (e1.trans e2).trans e3⟩)
    rw [hA, skI_nat, sk_isb hb]
    refine tupb ?_
    simp
   rintro _ w4 ⟨rfl, e4⟩
   refine sif_false ⟨?_, e4⟩
   rw [hn]
  ·have hb : isb A i = false := hb
   have hn : nb A (i + 1) = nb A i := by rw [nb_succ, hb]; rfl
   exact ⟨by rw [hn], e1⟩
 ·rintro _ W' ⟨rfl, e2⟩
  exact ⟨⟨i + 1, by omega, rfl, e2⟩, by dsimp only; omega⟩
theorem enc_of (x : Int) : ∃ e : Enc, IntKind.wrap .i64 ((1 : Int) + (IntKind.wrap .i64 ((BitVec.toNat (BitVec.ofInt (IntKind.bits .i64) x &&& BitVec.ofInt (IntKind.bits .i64) (3 : Int)) : Nat) : Int))) = e.num := by
 have h : BitVec.toNat (BitVec.ofInt (IntKind.bits .i64) x &&& BitVec.ofInt (IntKind.bits .i64) (3 : Int)) ≤ 3 := by
  rw [BitVec.toNat_and]
  exact Nat.le_trans Nat.and_le_right (by decide)
 generalize BitVec.toNat (BitVec.ofInt (IntKind.bits .i64) x &&& BitVec.ofInt (IntKind.bits .i64) (3 : Int)) = n at h
 match n, h with
 | 0, _ => exact ⟨.u8, by decide⟩
 | 1, _ => exact ⟨.le, by decide⟩
 | 2, _ => exact ⟨.be, by decide⟩
 | 3, _ => exact ⟨.l1, by decide⟩
theorem ix_byX {s : Sl} {l : Bs} {n : Int} {K : Addr → Int → World → Prop} (h : SlX w s 1 (bv l)) (h0 : 0 ≤ n) {b : UInt8} (hb : l[n.toNat]? = some b) (hK : ∀ p, K p (b.toNat : Int) w) :
  ix s.a s.len n (fun p => ld (.int .u8) (p.add (scaled (Int.toNat n) 1)) (K p)) w := by
 rw [bv_map] at h
 exact ix_ldX (c := .int .u8) (xs := l.map fun b => (b.toNat : Int)) h h0 (x := (b.toNat : Int)) (by rw [List.getElem?_map, hb]; rfl) hK
abbrev stT (enc : Int) (s : Sl) : Cells.T c24 := (enc, s, ())
structure Bth (w : World) (N p : Nat) (e : Enc) (O : Nat → Prop) (M : Parts) (s : Sl) : Prop where
 txt : Txt w p e 65536 0 O M
 lst : SlOwn w N s 3 1 (iv (atoms (aOf e M)))
 new : ∀ k, O k → N ≤ k
theorem opened_callT {enc : Int} {s : Sl} {l : Bs} (hs : SlX w s 1 (bv l)) (hl : l.length < 2 ^ 60) {K : (Option Addr × Sl × Unit) × Bool × Unit → World → Prop}
  (hK : ∀ p e O M s' w', Bth w' w.heap.size p e O M s' → Ext w w' → aOf e M = ats e (l.take (min l.length 50000)) → IntKind.wrap .i64 ((1 : Int) + (IntKind.wrap .i64 ((BitVec.toNat (BitVec.ofInt (IntKind.bits .i64) enc &&& BitVec.ofInt (IntKind.bits .i64) (3 : Int)) : Nat) : Int))) = e.num → (∀ k, s'.blk k → ¬ O k) → K ((some (at0 p), s', ()), true, ()) w') :
  callT Tryz.prog 16 #[.agg (Cells.vals c24 (stT enc s)).toArray] (.tup [(.agg c28), (.one .bool)]) K w := by
 refine F16_calls (a0 := stT enc s) ?_
 unfold F16
 have hlen : l.length = s.len := by have := hs.len1; rwa [List.length_map] at this
 let Z : Obj := .cells #[.pointer none, .slice none 0 0] 28 (0, 0)
 let Q : Obj := .cells (Cells.vals c24 (stT enc s)).toArray 24 (0, 0)
 refine (St.start w).newO fun b1 w1 S1 e1 => S1.newO fun b2 w2 S2 e2 => ?_
 have S2 : St (fun _ => False) w w2 [(b2, Z), (b1, Q)] := S2
 refine S2.ld 1 rfl (x := enc) rfl ?_
 refine join_r (fun x W => ∃ m, m = min l.length 50000 ∧ SlOwn W w.heap.size x.1 5 1 (bv (l.take m)) ∧ St (fun _ => False) w W [(b2, Z), (b1, Q)]) ?_ ?_
 ·refine sloop_r (fun x W => ∃ i : Nat, i ≤ l.length ∧ i ≤ 50000 ∧ x.2 = ((i : Int), ()) ∧ SlOwn W w2.heap.size x.1 5 1 (bv (l.take i)) ∧ St (fun _ => False) w W [(b2, Z), (b1, Q)] ∧ w2.heap.size ≤ W.heap.size) (fun x _ => ((l.length : Int) - x.2.1).toNat) ⟨0, Nat.zero_le _, Nat.zero_le _, rfl, SlOwn.nil _ _ _ _, S2, Nat.le_refl _⟩ ?_
  rintro ⟨r, _⟩ W ⟨i, hi, hi2, rfl, hr, SW, hW⟩
  dsimp only at hr ⊢
  have hrl := hr.len1
  rw [List.length_map, List.length_take] at hrl
  refine join_r (fun x W' => x = (decide (i < l.length ∧ i < 50000), ()) ∧ W = W') ?_ ?_
  ·refine SW.ld 1 rfl (x := s) rfl (sif_r (fun h => ⟨tupb ?_, rfl⟩) (fun h => ⟨tupb ?_, rfl⟩))
   all_goals simp only [decide_eq_true_eq, decide_eq_false_iff_not, Bool.false_eq_true, false_iff] at *
   all_goals omega
  rintro _ _ ⟨rfl, rfl⟩
  refine sif_r (fun hc => ?_) (fun hc => ?_)
  ·simp only [decide_eq_true_eq] at hc
   obtain ⟨b, hb⟩ : ∃ b, l[i]? = some b := ⟨_, List.getElem?_eq_getElem hc.1⟩
   have hsW : SlX W s 1 (bv l) := hs.ext SW.upd
   refine SW.ld 1 rfl (x := s) rfl (ix_byX hsW (by omega) (b := b) (by rw [Int.toNat_natCast]; exact hb) fun q => newO_r fun b14 w4 e4 n4 hb4 _ => ?_)
   have hbox : SlX w4 ⟨some (at0 b14), 1, 1⟩ 1 (bv [b]) := (SlIn.of_box n4 (n := 1) (sz := 1) rfl).x
   refine append_rx EBy EBy.ts_ (x := ⟨some (at0 b14), 1, 1⟩) (hr.ext e4) hbox (bv_one [b]) (by
    show (r.len + 1 + (r.len + 1) / 4 + 512) * 1 ≤ 2 ^ 48
    omega) (by have := e4.size; omega) fun r' w5 o5 l5 u5 k5 => ?_
   have ew : IntKind.wrap .i64 ((i : Int) + 1) = ((i + 1 : Nat) : Int) := by rw [wrap64 (by omega) (by omega)]; omega
   rw [ew]
   have e5 : bv (l.take i) ++ bv [b] = bv (l.take (i + 1)) := by rw [List.take_add_one, hb]; simp [bv]
   rw [e5] at o5
   refine ⟨⟨i + 1, by omega, by omega, rfl, o5, (SW.ext e4).fresh u5 (fun k hk => .inr ?_) (fun x hx hk => ?_), ?_⟩, by omega⟩
   ·have := hr.blk_ge hk; have := S2.upd.size; omega
   ·have h1 := hr.blk_ge hk
    have h2 := S2.lt x hx
    omega
   ·have := e4.size; have := u5.size; omega
  ·simp only [decide_eq_false_iff_not] at hc
   exact ⟨i, by omega, hr.mono S2.upd.size, SW⟩
 rintro ⟨d, _⟩ w3 ⟨m, hm, hd, S3⟩
 dsimp only at hd ⊢
 obtain ⟨e, he⟩ := enc_of enc
 rw [he]
 have hml : (l.take m).length ≤ 50000 := by rw [List.length_take]; omega
 refine decode_call (e := e) hd.in (by omega) fun a w4 o4 e4 => ?_
 refine open_call (e := e) (lim := 65536) (hd.in.ext e4) (by omega) (by decide) fun p O M w5 tx hM hB e5 hO => ?_
 have S5 := (S3.ext e4).ext e5
 have o5 := o4.ext e5
 rw [← hM] at o5
 refine join_r (fun x W => x = (false, ()) ∧ w5 = W) (sif_r (fun h => by simp at h) (fun _ => ⟨rfl, rfl⟩)) ?_
 rintro _ _ ⟨rfl, rfl⟩
 refine sif_false (lined_call tx o5.in fun w6 e6 => ?_)
 have S6 := S5.ext e6
 have h3 := S3.upd.size
 have h4 := e4.size
 refine S6.aggSt 0 rfl rfl rfl rfl fun w7 S7 u7 => S7.lds 0 (some (at0 p), a, ()) rfl (hK p e O M a w7 ⟨?_, ?_, fun k hk => ?_⟩ S7.upd (by rw [hM, hm]) he fun k hk hO' => by
  have h1 := o4.in.blk_lt hk
  have := hO k hO'
  omega)
 ·refine (tx.ext e6).upd u7 (fun k hk hS => ?_) (NoTy.box (S6.at_ 0 rfl) (by decide))
  have := hO k hk
  have hb2 := S5.lt _ List.mem_cons_self
  have hb2' := S3.lt _ List.mem_cons_self
  simp only at hb2'
  omega
 ·exact ((o5.ext e6).mono h3).box (S6.at_ 0 rfl) (by decide) u7
 ·have := hO k hk; omega
theorem opened_call {enc : Int} {s : Sl} {l : Bs} (hs : SlX w s 1 (bv l)) (hl : l.length < 2 ^ 60) {K : (Option Addr × Sl × Unit) × Bool × Unit → World → Prop}
  (hK : ∀ p e O M s' w', Bth w' w.heap.size p e O M s' → Ext w w' → (l.length ≤ 50000 → aOf e M = ats e l) → IntKind.wrap .i64 ((1 : Int) + (IntKind.wrap .i64 ((BitVec.toNat (BitVec.ofInt (IntKind.bits .i64) enc &&& BitVec.ofInt (IntKind.bits .i64) (3 : Int)) : Nat) : Int))) = e.num → K ((some (at0 p), s', ()), true, ()) w') :
  callT Tryz.prog 16 #[.agg (Cells.vals c24 (stT enc s)).toArray] (.tup [(.agg c28), (.one .bool)]) K w :=
 opened_callT hs hl fun p e O M s' w' hB x hM he _ => hK p e O M s' w' hB x (fun h => by rw [hM, List.take_of_length_le (by omega)]) he
end
section
variable {w w' : World} {S : Nat → Prop} {p : Nat} {e : Enc} {lim na : Nat} {O : Nat → Prop} {M : Parts}
abbrev exB : Bs := [40, 34, 120, 34, 41]
abbrev exA : List Int := [40, 34, 120, 34, 41]
theorem ats_ex : atoms (ats .u8 exB) = exA := by
 have one : ∀ (b : UInt8) (r : Bs), b.toNat < 128 → ats .u8 (b :: r) = ((b.toNat : Int), 1) :: ats .u8 r := by
  intro b r hb
  have h1 : nx .u8 (b :: r) = ((b.toNat : Int), 1) := by
   have hbn : bnds b.toNat = (1, 0, 0) := by unfold bnds; rw [if_pos hb]
   have hr : rowOf (b :: r) = (1, 1) := by simp only [rowOf, hbn]; rw [if_pos (by decide)]
   show nx8 (b :: r) = _
   simp only [nx8, hr]
   rw [if_neg (by decide)]
   rfl
  rw [ats_cons .u8 (by simp), h1]; rfl
 rw [one _ _ (by decide), one _ _ (by decide), one _ _ (by decide), one _ _ (by decide), one _ _ (by decide), ats_nil]
 rfl
theorem litBytes {b n : Nat} {l : Bs} {c : Array Value} {K : Sl → World → Prop} (hb : w.heap[b]? = some (.cells c 5 (0, 0))) (hc : c.toList = bv l) (hn : n = l.length) (hw : ∀ w', SlX w' ⟨some (at0 b), n, n⟩ 1 (bv l) → Upd (fun k => k = b) w w' → K ⟨some (at0 b), n, n⟩ w') :
  rawT Tryz.prog (.one (.one .sl)) (convert 22 22 (.slice (some (at0 b)) n n)) K w := by
 subst hn
 refine lit_r i22_ok.und i5_ok.und hb fun w' fr hb' u => hw w' ?_ u
 have hs : c.size = l.length * 1 := by rw [← Array.length_toList, hc, List.length_map]; omega
 have := SlIn.of_box hb' (n := l.length) (sz := 1) hs
 rw [hc] at this
 exact this.x
theorem ex_blocks : blocksP exA 2 67 0 40 = ((1, 4, 0), 0) := by kernel_rfl
theorem fixed3_call {K : Bool → World → Prop} (hK : ∀ w', Ext w w' → K true w') : callT Tryz.prog 17 #[.int .i64 3] (.one (.one .bool)) K w := by
 refine F17_calls ?_
 unfold F17
 refine newO_r fun b1 w1 e1 n1 hb1 _ => litBytes (l := exB) n1 rfl rfl fun w2 hs u2 => ?_
 have e2 : Ext w w2 := e1.step u2 fun k hk => by omega
 refine opened_call (enc := 0) hs (by decide) fun p e O M s w3 hB e3 hM he => ?_
 have hen : e = .u8 := by
  have : (1 : Int) = e.num := he
  cases e <;> first | rfl | (exact absurd this (by decide))
 subst hen
 have hA : atoms (aOf .u8 M) = exA := by rw [hM (by decide), ats_ex]
 refine (St.start w3).newO' fun b4 w4 S4 e4 hb4 => S4.aggSt 0 rfl rfl rfl rfl fun w5 S5 u5 => ?_
 refine sif_false (S5.newO fun b5 w6 S6 e6 => join_r (fun _ _ => False) ?_ (fun _ _ h => h.elim))
 refine sif_false (sif_false (sif_true (S6.ld 1 rfl (x := some (at0 p)) rfl ?_)))
 refine blocks_call (kind := 67) (count := 0) (arg := 40) (hB.txt.ext S6.upd) (by decide) fun w7 e7 => ?_
 rw [hA, ex_blocks]
 refine (S6.ext e7).aggSt 0 rfl rfl rfl rfl fun w8 S8 u8 => ?_
 exact sif_true (S8.ld 0 rfl (x := (1 : Int)) rfl (sif_true (S8.ld 0 rfl (x := (4 : Int)) rfl (hK w8 ((e2.trans e3).trans S8.upd)))))
end
end Go.Proofs.YtabcpghhfeplaaaGreat
namespace Go.Proofs.YtabcpghhfeplaaaGreat
open Trx Gly Clu Lns Obx
namespace Obx
noncomputable def lineP (A : List Int) (at_ : Int) : Ln := (lnAt A (nb A at_.toNat)).getD ⟨0, 0, 0, 0⟩
noncomputable def lineC (A : List Int) (l : Ln) : List Cel := cels ((A.drop l.from_).take (l.to_ - l.from_)) l.from_
end Obx
namespace Obx
structure Good (A : List Int) (s : Int × Int × Int) : Prop where
 lo : 0 ≤ s.1
 le : s.1 ≤ s.2.1
 hi : s.2.1 ≤ A.length
 b1 : bk A s.1.toNat = true
 b2 : bk A s.2.1.toNat = true
structure LcOk (A : List Int) (l : Ln) (c : Cel) : Prop where
 lo : l.from_ ≤ c.from_
 lt : c.from_ < c.to_
 hi : c.to_ ≤ l.to_
 b1 : bk A c.from_ = true
 b2 : bk A c.to_ = true
theorem lineP_at {A : List Int} {at_ : Int} (h0 : 0 ≤ at_) (h1 : at_ ≤ A.length) : lnAt A (nb A at_.toNat) = some (lineP A at_) := by
 obtain ⟨l, hl, _⟩ := ln_of A (show at_.toNat ≤ A.length by omega)
 unfold lineP
 rw [hl]; rfl
end Obx
end Go.Proofs.YtabcpghhfeplaaaGreat
namespace Go.Proofs.YtabcpghhfeplaaaGreat
open Go Go.Vx Cdc Trx Gly Clu Lns Obx
section
variable {w w' : World} {S : Nat → Prop} {p : Nat} {e : Enc} {lim na : Nat} {O : Nat → Prop} {M : Parts}
theorem line_ok (A : List Int) {at_ : Nat} (h : at_ ≤ A.length) : lnAt A (nb A at_) = some (lineP A (at_ : Int)) ∧ LnOk A (nb A at_) (lineP A (at_ : Int)) := by
 obtain ⟨l, hl, _⟩ := ln_of A h
 have e : lineP A (at_ : Int) = l := by unfold lineP; rw [Int.toNat_natCast, hl]; rfl
 rw [e]
 exact ⟨hl, ln_ok hl⟩
theorem times_pos (count : Int) : 1 ≤ times count := by unfold times; omega
theorem times_lt {count : Int} (h : count < 2 ^ 63) : ((times count : Nat) : Int) < 2 ^ 63 := by unfold times; omega
end
end Go.Proofs.YtabcpghhfeplaaaGreat
namespace Go.Proofs.YtabcpghhfeplaaaGreat
open Go Go.Vx Go.ChangeShapes Go.WideShapes Go.RowKit Cdc
theorem Tryz.own : ownKnob Tryz.prog.godebug = none := by kernel_rfl
theorem Tryz.laidOut : laidOutB Tryz.prog = true := by kernel_rfl
theorem ui : Tryz.prog.underlying 3 = some (.int .i64) := i3_ok.und
theorem ub : Tryz.prog.underlying 5 = some (.int .u8) := i5_ok.und
theorem u4 : Tryz.prog.underlying 4 = some .bool := i4_ok.und
theorem uInts : Tryz.prog.underlying 26 = some (.slice 3) := i26_ok.und
theorem uBytes : Tryz.prog.underlying 22 = some (.slice 5) := i22_ok.und
theorem uOps : Tryz.prog.underlying 41 = some (.slice 43) := by kernel_rfl
theorem ci : Tryz.prog.cellsOf 3 = 1 := by kernel_rfl
theorem bi : Tryz.prog.bytesOf 3 = 8 := by kernel_rfl
theorem cby : Tryz.prog.cellsOf 5 = 1 := by kernel_rfl
theorem bby : Tryz.prog.bytesOf 5 = 1 := by kernel_rfl
theorem cbs : Tryz.prog.cellsOf 22 = 1 := by kernel_rfl
theorem cis : Tryz.prog.cellsOf 26 = 1 := by kernel_rfl
theorem cstart : Tryz.prog.cellsOf 24 = 2 := by kernel_rfl
theorem cop : Tryz.prog.cellsOf 43 = 7 := by kernel_rfl
theorem bop : Tryz.prog.bytesOf 43 = 72 := by kernel_rfl
theorem sStart : ∃ fs : Array Field, Tryz.prog.underlying 24 = some (.struct fs) ∧ fs.toList.map (fun f => (f.type, f.offset)) = [(3, 0), (22, 1)] := ⟨_, i24_ok.und, rfl⟩
theorem sOp : ∃ fs : Array Field, Tryz.prog.underlying 43 = some (.struct fs) ∧ fs.toList.map (fun f => (f.type, f.offset)) = [(3, 0), (3, 1), (3, 2), (3, 3), (3, 4), (3, 5), (26, 6)] := ⟨_, i43_ok.und, rfl⟩
theorem rows_of2 {cs : List Cell} {β : Type} {Q : Cells.T cs → β → Prop} : ∀ (rows : List (List Value)), (∀ r ∈ rows, ∃ x y, r = Cells.vals cs x ∧ Q x y) → ∃ (xs : List (Cells.T cs)) (ys : List β), rows.flatten = flat cs xs ∧ xs.length = rows.length ∧ xs.length = ys.length ∧ ∀ (i : Nat) x y, xs[i]? = some x → ys[i]? = some y → Q x y
 | [], _ => ⟨[], [], rfl, rfl, rfl, fun i x y hx => by simp at hx⟩
 | r :: rs, h => by
  obtain ⟨x, y, hx, hq⟩ := h r List.mem_cons_self
  obtain ⟨xs, ys, h1, h2, h3, h4⟩ := rows_of2 rs fun r' hr' => h r' (List.mem_cons_of_mem _ hr')
  refine ⟨x :: xs, y :: ys, ?_, by simp [h2], by simp [h3], fun i x' y' hx' hy' => ?_⟩
  ·rw [List.flatten_cons, h1, hx]; rfl
  ·match i with
   | 0 => cases hx'; cases hy'; exact hq
   | i + 1 => exact h4 i x' y' (by simpa using hx') (by simpa using hy')
structure LOp where
 who : Int
 kind : Int
 at_ : Int
 move : Int
 count : Int
 arg : Int
 put : List Int
structure LOp.In (w : World) (y : Cells.T c43) (o : LOp) : Prop where
 who : y.1 = o.who
 kind : y.2.1 = o.kind
 at_ : y.2.2.1 = o.at_
 move : y.2.2.2.1 = o.move
 count : y.2.2.2.2.1 = o.count
 arg : y.2.2.2.2.2.1 = o.arg
 put : SlX w y.2.2.2.2.2.2.1 1 (iv o.put)
 i1 : In64 o.who ∧ In64 o.kind ∧ In64 o.at_ ∧ In64 o.move ∧ In64 o.count ∧ In64 o.arg
 i2 : ∀ n ∈ o.put, In64 n
 len : o.put.length ≤ 2 ^ 44
 lt : ∀ k, y.2.2.2.2.2.2.1.blk k → y.2.2.2.2.2.2.1.len = 0 ∨ k < w.heap.size
structure LOp.All (w : World) (s : Sl) (ys : List (Cells.T c43)) (os : List LOp) : Prop where
 row : SlX w s 7 (flat c43 ys)
 len : ys.length = os.length
 few : os.length ≤ 2 ^ 42
 each : ∀ (i : Nat) y o, ys[i]? = some y → os[i]? = some o → o.In w y
theorem wf64 {n : Int} (h : (Lit.int .i64 n).wf = true) : In64 n := by
 have h1 : IntKind.min .i64 = -9223372036854775808 := rfl
 have h2 : IntKind.max .i64 = 9223372036854775807 := rfl
 simp [Lit.wf, h1, h2] at h
 unfold In64
 omega
section
variable {H : Type} {enc : TypeId × Value → H} {W : World} {base fuel : Nat} {held : Bool}
theorem open_fields {t : TypeId} {fs : Array Field} {L : List (TypeId × Nat)} {cs : List Value} {x : DataW H × List MemPlace} (hu : Tryz.prog.underlying t = some (.struct fs)) (hfs : fs.toList.map (fun f => (f.type, f.offset)) = L)
  (h : DataW.trod enc Tryz.prog W base (fun _ => true) held fuel t cs = some x) (hw : ∀ n ∈ x.1.weights Tryz.prog t, n ≤ reachBytes) :
  ∃ n, ∀ (i : Nat) (t' o : Nat), L[i]? = some (t', o) → ∃ y, DataW.trod enc Tryz.prog W base (fun _ => true) held n t' ((cs.drop o).take (Tryz.prog.cellsOf t')) = some y ∧ ∀ k ∈ y.1.weights Tryz.prog t', k ≤ reachBytes := by
 obtain ⟨xs, n, _, rfl, _, hxl, hall⟩ := DataW.trod_struct hu h
 refine ⟨n, fun i t' o hi => ?_⟩
 rw [← hfs, List.getElem?_map] at hi
 obtain ⟨f, hf, he⟩ := Option.map_eq_some_iff.1 hi
 cases he
 have hf' : fs[i]? = some f := by simpa using hf
 have h1 := hall i f hf'
 have hil : i < xs.length := by rw [hxl]; exact (Array.getElem?_eq_some_iff.1 hf').1
 rw [List.getElem?_eq_getElem hil] at h1
 refine ⟨xs[i], h1, fun k hk => hw k ?_⟩
 simp only [DataW.weights, hu]
 exact DataW.weights_mem_each (j := i) (t := f.type) (d := xs[i].1) (by rw [List.getElem?_map, hf]; rfl) (by rw [List.getElem?_map, List.getElem?_eq_getElem hil]; rfl) k hk
theorem open_u8 {cs : List Value} {x : DataW H × List MemPlace} (h : DataW.trod enc Tryz.prog W base (fun _ => true) held fuel 5 cs = some x) : ∃ b : UInt8, cs = [.int .u8 (b.toNat : Int)] := by
 have : ∃ n, cs = [.int .u8 n] ∧ (Lit.int .u8 n).wf = true := by
  cases fuel with
  | zero => simp [DataW.trod] at h
  | succ m =>
   unfold DataW.trod at h
   rw [ub] at h
   split at h <;> simp_all
 obtain ⟨n, rfl, hn⟩ := this
 have hr : 0 ≤ n ∧ n < 256 := by
  have h1 : IntKind.min .u8 = 0 := rfl
  have h2 : IntKind.max .u8 = 255 := rfl
  simp [Lit.wf, h1, h2] at hn
  omega
 refine ⟨UInt8.ofNat n.toNat, ?_⟩
 have : (UInt8.ofNat n.toNat).toNat = n.toNat := by
  rw [UInt8.toNat_ofNat']
  exact Nat.mod_eq_of_lt (by omega)
 rw [this]
 congr 2
 omega
theorem open_ints {cs : List Value} {x : DataW H × List MemPlace} (h : DataW.trod enc Tryz.prog W base (fun _ => true) held fuel 26 cs = some x) (hw : ∀ n ∈ x.1.weights Tryz.prog 26, n ≤ reachBytes) :
  ∃ (s : Sl) (l : List Int), cs = [.slice s.a s.len s.cap] ∧ SlX W s 1 (iv l) ∧ l.length ≤ 2 ^ 44 ∧ ∀ n ∈ l, In64 n := by
 obtain ⟨s, l, h1, h2, h3, h4⟩ := open_text uInts ui ci bi h hw
 exact ⟨s, l, h1, h2, by omega, fun n hn => wf64 (h4 n hn)⟩
theorem open_bytes {cs : List Value} {x : DataW H × List MemPlace} (h : DataW.trod enc Tryz.prog W base (fun _ => true) held fuel 22 cs = some x) (hw : ∀ n ∈ x.1.weights Tryz.prog 22, n ≤ reachBytes) :
  ∃ (s : Sl) (l : List UInt8), cs = [.slice s.a s.len s.cap] ∧ SlX W s 1 (bv l) ∧ l.length ≤ 2 ^ 47 := by
 obtain ⟨s, rows, rfl, hs, hl, hby, hr⟩ := open_rows uBytes cby (by decide) h hw
 obtain ⟨xs, ls, h1, h2, h3, h4⟩ := rows_of2 (cs := [.int .u8]) (β := UInt8) (Q := fun x y => x.1 = (y.toNat : Int)) rows (fun r hr' => by
  obtain ⟨_, n, y, hy, _⟩ := hr r hr'
  obtain ⟨b, rfl⟩ := open_u8 hy
  exact ⟨((b.toNat : Int), ()), b, rfl, rfl⟩)
 refine ⟨s, ls, rfl, ?_, ?_⟩
 ·rw [h1] at hs
  have e : flat [.int .u8] xs = bv ls := by
   clear h1 h2 hs
   induction xs generalizing ls with
   | nil =>
    cases ls with
    | nil => rfl
    | cons y r => simp at h3
   | cons x r ih =>
    cases ls with
    | nil => simp at h3
    | cons y q =>
     have h0 := h4 0 x y rfl rfl
     have := ih q (by simpa using h3) fun i x' y' hx hy => h4 (i + 1) x' y' (by simpa using hx) (by simpa using hy)
     simp only [flat, List.flatMap_cons] at this ⊢
     rw [this]
     obtain ⟨n, ⟨⟩⟩ := x
     dsimp only at h0
     subst h0
     rfl
  rw [e] at hs; exact hs
 ·rw [← h3, h2, hl]
  rw [bby] at hby
  unfold reachBytes at hby
  omega
theorem open_start {cs : List Value} {x : DataW H × List MemPlace} (hl : cs.length = 2) (h : DataW.trod enc Tryz.prog W base (fun _ => true) held fuel 24 cs = some x) (hw : ∀ n ∈ x.1.weights Tryz.prog 24, n ≤ reachBytes) :
  ∃ (c : Int) (s : Sl) (l : List UInt8), cs = Cells.vals c24 (stT c s) ∧ SlX W s 1 (bv l) ∧ l.length ≤ 2 ^ 47 := by
 obtain ⟨fs, hu, hfs⟩ := sStart
 obtain ⟨n, hall⟩ := open_fields hu hfs h hw
 obtain ⟨v0, v1, rfl⟩ : ∃ v0 v1, cs = [v0, v1] := by
  match cs, hl with
  | [v0, v1], _ => exact ⟨v0, v1, rfl⟩
 obtain ⟨y0, h0, _⟩ := hall 0 _ _ rfl
 obtain ⟨y1, h1, hw1⟩ := hall 1 _ _ rfl
 rw [ci] at h0
 rw [cbs] at h1
 obtain ⟨n0, e0, _⟩ := open_i64 ui h0
 obtain ⟨s, l, e1, g1, g2⟩ := open_bytes h1 hw1
 simp at e0 e1
 subst e0 e1
 exact ⟨n0, s, l, rfl, g1, g2⟩
theorem SlX.lt {w : World} {s : Sl} {sz : Nat} {us : List Value} (h : SlX w s sz us) : ∀ k, s.blk k → s.len = 0 ∨ k < w.heap.size := by
 intro k hk
 rcases h.at_ with ⟨h, _⟩ | ⟨t, h⟩
 ·exact .inl h
 ·exact .inr (h.blk_lt hk)
theorem open_op {cs : List Value} {x : DataW H × List MemPlace} (hl : cs.length = 7) (h : DataW.trod enc Tryz.prog W base (fun _ => true) held fuel 43 cs = some x) (hw : ∀ n ∈ x.1.weights Tryz.prog 43, n ≤ reachBytes) :
  ∃ (y : Cells.T c43) (o : LOp), cs = Cells.vals c43 y ∧ o.In W y := by
 obtain ⟨fs, hu, hfs⟩ := sOp
 obtain ⟨n, hall⟩ := open_fields hu hfs h hw
 obtain ⟨v0, v1, v2, v3, v4, v5, v6, rfl⟩ : ∃ v0 v1 v2 v3 v4 v5 v6, cs = [v0, v1, v2, v3, v4, v5, v6] := by
  match cs, hl with
  | [v0, v1, v2, v3, v4, v5, v6], _ => exact ⟨v0, v1, v2, v3, v4, v5, v6, rfl⟩
 obtain ⟨y0, h0, _⟩ := hall 0 _ _ rfl
 obtain ⟨y1, h1, _⟩ := hall 1 _ _ rfl
 obtain ⟨y2, h2, _⟩ := hall 2 _ _ rfl
 obtain ⟨y3, h3, _⟩ := hall 3 _ _ rfl
 obtain ⟨y4, h4, _⟩ := hall 4 _ _ rfl
 obtain ⟨y5, h5, _⟩ := hall 5 _ _ rfl
 obtain ⟨y6, h6, hw6⟩ := hall 6 _ _ rfl
 rw [ci] at h0 h1 h2 h3 h4 h5
 rw [cis] at h6
 obtain ⟨n0, e0, i0⟩ := open_i64 ui h0
 obtain ⟨n1, e1, i1⟩ := open_i64 ui h1
 obtain ⟨n2, e2, i2⟩ := open_i64 ui h2
 obtain ⟨n3, e3, i3⟩ := open_i64 ui h3
 obtain ⟨n4, e4, i4⟩ := open_i64 ui h4
 obtain ⟨n5, e5, i5⟩ := open_i64 ui h5
 obtain ⟨s6, l6, e6, g6, k6, j6⟩ := open_ints h6 hw6
 simp at e0 e1 e2 e3 e4 e5 e6
 subst e0 e1 e2 e3 e4 e5 e6
 exact ⟨(n0, n1, n2, n3, n4, n5, s6, ()), ⟨n0, n1, n2, n3, n4, n5, l6⟩, rfl, ⟨rfl, rfl, rfl, rfl, rfl, rfl, g6, ⟨wf64 i0, wf64 i1, wf64 i2, wf64 i3, wf64 i4, wf64 i5⟩, j6, k6, SlX.lt g6⟩⟩
theorem open_ops {cs : List Value} {x : DataW H × List MemPlace} (h : DataW.trod enc Tryz.prog W base (fun _ => true) held fuel 41 cs = some x) (hw : ∀ n ∈ x.1.weights Tryz.prog 41, n ≤ reachBytes) :
  ∃ (s : Sl) (ys : List (Cells.T c43)) (os : List LOp), cs = [.slice s.a s.len s.cap] ∧ LOp.All W s ys os := by
 obtain ⟨s, rows, rfl, hs, hl, hby, hr⟩ := open_rows uOps cop (by decide) h hw
 obtain ⟨xs, ls, h1, h2, h3, h4⟩ := rows_of2 (cs := c43) (β := LOp) (Q := fun y o => o.In W y) rows (fun r hr' => by
  obtain ⟨hrl, n, y, hy, hwy⟩ := hr r hr'
  exact open_op hrl hy hwy)
 rw [h1] at hs
 refine ⟨s, xs, ls, rfl, ⟨hs, h3, ?_, h4⟩⟩
 rw [← h3, h2, hl]
 rw [bop] at hby
 unfold reachBytes at hby
 omega
end
theorem trodAll_get {H : Type} {enc : TypeId × Value → H} {P : Program} {w : World} {base : Nat} {spare : Nat → Bool} {held : Bool} : ∀ {ts : List TypeId} {vs : List Value} {ds : List (DataW H)} {ps : List MemPlace}, DataW.TrodAll enc P w base spare held ts vs ds ps →
  vs.length = ts.length ∧ ds.length = ts.length ∧ ∀ (j : Nat) t v d, ts[j]? = some t → vs[j]? = some v → ds[j]? = some d → ∃ p, DataW.Trod enc P w base spare held t v d p
 | [], [], [], _, _ => ⟨rfl, rfl, fun j t v d h => by simp at h⟩
 | t :: ts, v :: vs, d :: ds, ps, ⟨p, q, h1, h2, e⟩ => by
  obtain ⟨a, b, c⟩ := trodAll_get h2
  refine ⟨by simp [a], by simp [b], fun j t' v' d' ht hv hd => ?_⟩
  match j with
  | 0 => cases ht; cases hv; cases hd; exact ⟨p, h1⟩
  | j + 1 => exact c j t' v' d' (by simpa using ht) (by simpa using hv) (by simpa using hd)
 | [], _ :: _, _, _, h => h.elim
 | [], [], _ :: _, _, h => h.elim
 | _ :: _, [], _, _, h => h.elim
 | _ :: _, _ :: _, [], _, h => h.elim
theorem list_3 {α : Type} (l : List α) (h : l.length = 3) : ∃ v0 v1 v2, l = [v0, v1, v2] := by
 match l, h with
 | [v0, v1, v2], _ => exact ⟨v0, v1, v2, rfl⟩
theorem weigh {H : Type} {ts : List TypeId} {ds : List (DataW H)} (h : (DataW.weightsEach Tryz.prog ts ds).all (· ≤ reachBytes) = true) (j : Nat) {t : TypeId} {d : DataW H} (ht : ts[j]? = some t) (hd : ds[j]? = some d) : ∀ n ∈ d.weights Tryz.prog t, n ≤ reachBytes := by
 intro n hn
 have := List.all_eq_true.1 h _ (DataW.weights_mem_each ht hd n hn)
 simpa using this
section
variable {H : Type} {enc : TypeId × Value → H} {W : World} {base : Nat}
theorem arg_ops {v : Value} {d : DataW H} {p : List MemPlace} (hv : Value.okWide Tryz.prog W .any base 41 v) (h : DataW.Trod enc Tryz.prog W 0 (fun _ => true) true 41 v d p) (hw : ∀ n ∈ d.weights Tryz.prog 41, n ≤ reachBytes) :
  ∃ (s : Sl) (ys : List (Cells.T c43)) (os : List LOp), v = .slice s.a s.len s.cap ∧ LOp.All W s ys os := by
 obtain ⟨a, len, cap, rfl⟩ := okWide_slice uOps hv
 obtain ⟨n, hn⟩ := h
 obtain ⟨s, ys, os, e, h1⟩ := open_ops hn hw
 exact ⟨s, ys, os, by simpa [Value.cells] using e, h1⟩
theorem arg_start {v : Value} {d : DataW H} {p : List MemPlace} (hv : Value.okWide Tryz.prog W .any base 24 v) (h : DataW.Trod enc Tryz.prog W 0 (fun _ => true) true 24 v d p) (hw : ∀ n ∈ d.weights Tryz.prog 24, n ≤ reachBytes) :
  ∃ (c : Int) (s : Sl) (l : List UInt8), v = .agg (Cells.vals c24 (stT c s)).toArray ∧ SlX W s 1 (bv l) ∧ l.length ≤ 2 ^ 47 := by
 obtain ⟨fs, hu, _⟩ := sStart
 obtain ⟨cs, rfl, hsz⟩ := okWide_struct hu hv
 obtain ⟨n, hn⟩ := h
 rw [cstart] at hsz
 obtain ⟨c, s, l, e, h1, h2⟩ := open_start (cs := cs.toList) (by simpa using hsz) (by simpa [Value.cells] using hn) hw
 exact ⟨c, s, l, by rw [← e], h1, h2⟩
end
theorem tsize : 200 ≤ Tryz.prog.types.size := of_decide_eq_true (by kernel_rfl)
theorem recInt : Tryz.prog.readableRec 3 = true := by kernel_rfl
theorem recInts : Tryz.prog.readableRec 26 = true := by kernel_rfl
theorem recOps : Tryz.prog.readableRec 41 = true := by kernel_rfl
theorem recStart : Tryz.prog.readableRec 24 = true := by kernel_rfl
theorem recs {t : TypeId} (h : t = 3 ∨ t = 26 ∨ t = 41 ∨ t = 24) : Tryz.prog.readableRec t = true ∧ t < Tryz.prog.types.size := by
 have := tsize
 rcases h with rfl | rfl | rfl | rfl
 ·exact ⟨recInt, Nat.lt_of_lt_of_le (by decide) this⟩
 ·exact ⟨recInts, Nat.lt_of_lt_of_le (by decide) this⟩
 ·exact ⟨recOps, Nat.lt_of_lt_of_le (by decide) this⟩
 ·exact ⟨recStart, Nat.lt_of_lt_of_le (by decide) this⟩
end Go.Proofs.YtabcpghhfeplaaaGreat
namespace Go.Proofs.YtabcpghhfeplaaaGreat
open Go Go.Vx Cdc Trx Gly Clu Lns Obx
section
variable {w w' : World} {S : Nat → Prop} {p : Nat} {e : Enc} {lim na : Nat} {O : Nat → Prop} {M : Parts}
theorem copied_call {A : List Int} {s : Sl} {t : TypeId} (hs : SlIn w s t 1 (iv A)) (hl : A.length < 2 ^ 40) {K : Sl → World → Prop} (hK : ∀ s' w', SlOwn w' w.heap.size s' 3 1 (iv A) → Ext w w' → K s' w') :
  callT Tryz.prog 46 #[.slice s.a s.len s.cap] (.one (.one .sl)) K w := by
 refine F46_calls ?_
 unfold F46
 have hlen : A.length = s.len := by have := hs.len1; rwa [List.length_map] at this
 refine join_r (fun x W => SlOwn W w.heap.size x.1 3 1 (iv A) ∧ Ext w W) ?_ (fun x W h => hK _ _ h.1 h.2)
 refine sloop_r (fun x W => ∃ i : Nat, i ≤ A.length ∧ x.2 = ((i : Int), ()) ∧ SlOwn W w.heap.size x.1 3 1 (iv (A.take i)) ∧ Ext w W) (fun x _ => ((A.length : Int) - x.2.1).toNat) ⟨0, Nat.zero_le _, rfl, SlOwn.nil _ _ _ _, Ext.refl w⟩ ?_
 rintro ⟨r, _⟩ W ⟨i, hi, rfl, hr, eW⟩
 dsimp only at hr ⊢
 have hrl := hr.len1
 rw [List.length_map, List.length_take] at hrl
 refine sif_r (fun hc => ?_) (fun hc => ?_)
 ·simp only [decide_eq_true_eq] at hc
  obtain ⟨a, ha⟩ : ∃ a, A[i]? = some a := ⟨_, List.getElem?_eq_getElem (by omega)⟩
  have ew : IntKind.wrap .i64 ((i : Int) + 1) = ((i + 1 : Nat) : Int) := by rw [wrap64 (by omega) (by omega)]; omega
  rw [ew]
  refine ix_ld (c := .int .i64) (xs := A) (hs.ext eW) (by omega) (x := a) (by rw [Int.toNat_natCast]; exact ha) fun q => newO_r fun b7 w4 e4 n4 hb4 _ => ?_
  refine append_rx eInts eInts.ts_ (x := ⟨some (at0 b7), 1, 1⟩) (hr.ext e4) (iv_box n4) (fun v hv => by rw [List.mem_singleton.1 hv]; rfl) (by
   show (r.len + 1 + (r.len + 1) / 4 + 512) * 8 ≤ 2 ^ 48
   omega) (by have := eW.size; have := e4.size; omega) fun r' w5 o5 l5 u5 k5 => ?_
  have e5 : iv (A.take i) ++ [.int .i64 a] = iv (A.take (i + 1)) := by rw [List.take_add_one, ha]; simp
  rw [e5] at o5
  exact ⟨⟨i + 1, by omega, rfl, o5, (eW.trans e4).step u5 fun k hk => hr.blk_ge hk⟩, by omega⟩
 ·simp only [decide_eq_false_iff_not] at hc
  have e5 : A.take i = A := List.take_of_length_le (by omega)
  rw [e5] at hr
  exact ⟨hr, eW⟩
abbrev bothO (p : Nat) (s : Sl) : Obj := .cells #[.pointer (some (at0 p)), .slice s.a s.len s.cap] 28 (0, 0)
abbrev spanO (s : Int × Int × Int) : Obj := .cells #[.int .i64 s.1, .int .i64 s.2.1, .int .i64 s.2.2] 34 (0, 0)
end
section
variable {w w' : World} {S : Nat → Prop} {p : Nat} {e : Enc} {lim na : Nat} {O : Nat → Prop} {M : Parts}
abbrev opO (y : Cells.T c43) : Obj := .cells (Cells.vals c43 y).toArray 43 (0, 0)
end
end Go.Proofs.YtabcpghhfeplaaaGreat
namespace Go.Proofs.YtabcpghhfeplaaaGreat
open Go Go.Vx Cdc Trx
section
variable {w w' : World} {S : Nat → Prop} {p : Nat} {e : Enc} {lim na : Nat} {O : Nat → Prop} {M : Parts}
def bts (e : Enc) (l : List Int) : Bs := l.flatMap (pt e)
def prs (e : Enc) (l : List Int) : As := l.map fun a => (a, sz e a)
def Fit (e : Enc) (l : List Int) : Prop := ∀ a ∈ l, Scalar a ∧ sz e a ≠ 0
theorem ats_bts {e : Enc} : ∀ {l : List Int}, Fit e l → ats e (bts e l) = prs e l
 | [], _ => ats_nil e
 | a :: l, h => by
  have h1 := h a List.mem_cons_self
  show ats e (pt e a ++ bts e l) = _
  rw [ats_pt h1.1 h1.2, ats_bts fun x hx => h x (List.mem_cons_of_mem _ hx)]
  rfl
theorem atoms_prs (e : Enc) (l : List Int) : atoms (prs e l) = l := by
 unfold atoms prs
 rw [List.map_map]
 have : ((fun x : Int × Nat => x.1) ∘ fun a : Int => (a, sz e a)) = id := rfl
 show l.map _ = l
 rw [this, List.map_id]
theorem bts_len {e : Enc} {l : List Int} (h : Fit e l) : (bts e l).length = szs (prs e l) := by rw [← ats_bts h, szs_all]
theorem bts_app (e : Enc) (l m : List Int) : bts e (l ++ m) = bts e l ++ bts e m := by simp [bts]
theorem append_run3 (P : Program) {ts xt rt : TypeId} {e xe : TypeId} {i : TypeInfo} {z : Value} (hts : P.underlying ts = some (.slice e)) (hxt : P.underlying xt = some (.slice xe)) (hi : P.info? e = some i) (hz : i.zero = some z)
  {B : Nat} {s x : Sl} {vs us : List Value} (hs : SlOwn w B s e i.size vs) (hx : SlX w x i.size us) (h1 : ∀ v ∈ us, isOne v = true) (hzl : z.cells.size = i.size)
  (hroom : (s.len + x.len + (s.len + x.len) / 4 + 512) * i.bytes ≤ 2 ^ 48) (hb0 : 0 < i.bytes) (hB : B ≤ w.heap.size) :
  ∃ s' w', (Builtin.append_ #[ts, xt] rt #[.slice s.a s.len s.cap, .slice x.a x.len x.cap]).run P w = .ok (.slice s'.a s'.len s'.cap) w' ∧ SlOwn w' B s' e i.size (vs ++ us) ∧ s'.len = s.len + x.len ∧
   Upd (fun k => s.blk k) w w' ∧ ((Ext w w' ∧ ∀ k, s'.blk k → w.heap.size ≤ k) ∨ (s'.a = s.a ∧ ∃ b off c, s.a = some ⟨b, off, none⟩ ∧ w.heap[b]? = some (.cells c e (0, 0)) ∧ w'.heap[b]? = some (.cells (setRow c (off + s.len * i.size) us) e (0, 0)))) := by
 obtain ⟨s', w', hr, ho, hl, hu, hk, hex⟩ := append_run2 (rt := rt) P hts hxt hi hz hs hx h1 hzl hroom hb0 hB
 refine ⟨s', w', hr, ho, hl, hu, ?_⟩
 have hfx := run_firstCellsX P hx
 have hfs := run_firstCells P hs.in
 have hu1 := fun W => run_underlying hts W
 have hu2 := fun W => run_underlying hxt W
 have hsz : ∀ W, (sizeOf e).run P W = .ok i.size W := fun W => by simp [sizeOf, run_typeInfo W hi]
 have hlen := hs.len
 have hxlen := hx.len
 by_cases hneed : s.len + x.len ≤ s.cap
 ·rcases hs.at_ with ⟨ha, hc⟩ | ⟨b, off, c, ha, hB', hb, hcap, hv⟩
  ·have hl0 : x.len = 0 := by omega
   have hsl : s.len = 0 := by omega
   have hus : us = [] := by rw [hl0, Nat.zero_mul] at hxlen; exact List.length_eq_zero_iff.1 hxlen
   have hfx' : (Builtin.firstCells i.size 0 (.slice x.a 0 x.cap)).run P w = .ok #[] w := by rw [hl0, hus] at hfx; exact hfx
   simp [Builtin.append_, hu1, hu2, hsz, Builtin.lenOf, hl0, hsl, ha, hfx', hc] at hr
   obtain ⟨⟨h1, _⟩, rfl⟩ := hr
   refine .inl ⟨Ext.refl w, fun k hk => ?_⟩
   obtain ⟨q, hq, _⟩ := hk
   rw [← h1] at hq; cases hq
  ·have hfit : s.len * i.size + us.length ≤ s.cap * i.size := by
    rw [hxlen, ← Nat.add_mul]; exact Nat.mul_le_mul_right _ hneed
   obtain ⟨w1, hr1, hu1', hb1, _⟩ := run_storeRow P us b (off + s.len * i.size) 0 c e w h1 hb (by omega)
   simp [Builtin.append_, hu1, hu2, hsz, Builtin.lenOf, hneed, hfx, ha, addr_add, hr1] at hr
   obtain ⟨⟨h1, _⟩, rfl⟩ := hr
   exact .inr ⟨h1.symm.trans ha.symm, b, off, c, ha, hb, hb1⟩
 ·have hti : ∀ W, (typeInfo e).run P W = .ok i W := fun W => run_typeInfo W hi
  have hzv : ∀ W, (zeroValue e).run P W = .ok z W := fun W => by simp [zeroValue, run_typeInfo W hi, hz]
  have hle := Go.Vx.nextslicecap_le (need := s.len + x.len) (old := s.cap) (by omega)
  have hroom' : ¬ (Builtin.nextslicecap (s.len + x.len) s.cap * i.bytes > 2 ^ 48) := by
   have := Nat.mul_le_mul_right i.bytes hle
   omega
  have hfx' : (Builtin.firstCells i.size x.len (.slice x.a x.len x.cap)).run P w.drew = .ok us.toArray w.drew := run_firstCellsX P (hx.ext (Ext.drew w))
  have hfs' : (Builtin.firstCells i.size s.len (.slice s.a s.len s.cap)).run P w.drew = .ok vs.toArray w.drew := run_firstCells P (hs.in.ext (Ext.drew w))
  have hb0' : ¬ i.bytes = 0 := by omega
  simp [Builtin.append_, hu1, hu2, hsz, Builtin.lenOf, hneed, hti, hb0', hroom', run_askRoom, hfs', hfx', hzv, newRow, newObj, Sem.run, Question.forced] at hr
  obtain ⟨⟨h1, _⟩, rfl⟩ := hr
  refine .inl ⟨(Ext.drew w).trans (Ext.alloc w.drew _), fun k hk => ?_⟩
  obtain ⟨q, hq, rfl⟩ := hk
  rw [← h1] at hq; cases hq
  exact Nat.le_refl _
theorem app_by {B : Nat} {s x : Sl} {l m : Bs} {K : Sl → World → Prop} (hs : SlOwn w B s 5 1 (bv l)) (hx : SlX w x 1 (bv m)) (hroom : s.len + x.len + (s.len + x.len) / 4 + 512 ≤ 2 ^ 48) (hB : B ≤ w.heap.size)
  (h : ∀ s' w', SlOwn w' B s' 5 1 (bv (l ++ m)) → s'.len = s.len + x.len → Upd s.blk w w' → (∀ k, s'.blk k → s.blk k ∨ w.heap.size ≤ k) →
   (∀ y b, By w y b → (∀ k, y.blk k → s.blk k → top y ≤ top s) → By w' y b ∧ ∀ k, y.blk k → s'.blk k → top y ≤ top s') → K s' w') :
  rawT Tryz.prog (.one (.one .sl)) (Builtin.append_ #[22, 22] 22 #[.slice s.a s.len s.cap, .slice x.a x.len x.cap]) K w := by
 obtain ⟨i, z, hi, hsz, hby, hz, hzs⟩ := EBy.e_
 have hs' := hs
 rw [← hsz] at hs hx
 obtain ⟨s', w', hr, ho, hl, hu, hex⟩ := append_run3 (rt := 22) Tryz.prog EBy.ts_ EBy.ts_ hi hz hs hx (fun v hv => by
  obtain ⟨b, _, rfl⟩ := List.mem_map.1 hv; rfl) (by rw [hsz]; exact hzs) (by rw [hby]; omega) (by rw [hby]; decide) hB
 rw [hsz] at ho hex
 have eb : bv l ++ bv m = bv (l ++ m) := by simp [bv]
 rw [eb] at ho
 refine ⟨s', w', hr, h s' w' ho hl hu (fun k hk => ?_) fun y b hy hyt => ?_⟩
 ·rcases hex with ⟨_, h2⟩ | ⟨h1, _⟩
  ·exact .inr (h2 k hk)
  ·left
   obtain ⟨q, hq, rfl⟩ := hk
   exact ⟨q, h1 ▸ hq, rfl⟩
 ·rcases hex with ⟨h1, h2⟩ | ⟨h1, b0, off, c, ha, hb0, hb1⟩
  ·exact ⟨hy.ext h1, fun k hk hk' => by have := hy.blk_lt hk; have := h2 k hk'; omega⟩
  ·have hts : top s ≤ top s' := by unfold top; rw [h1, ha]; show off + s.len ≤ off + s'.len; omega
   have hsk : ∀ k, s'.blk k → s.blk k := fun k hk => by obtain ⟨q, hq, rfl⟩ := hk; exact ⟨q, h1 ▸ hq, rfl⟩
   refine ⟨⟨SlIn.len hy, hy.le, hy.at_.imp id fun ⟨b', off', c', fr', ha', hb', hcap, hv⟩ => ?_⟩, fun k hk hk' => Nat.le_trans (hyt k hk (hsk k hk')) hts⟩
   by_cases hbb : b' = b0
   ·subst hbb
    rw [hb0] at hb'
    cases hb'
    have ht := hyt b' ⟨_, ha', rfl⟩ ⟨_, ha, rfl⟩
    unfold top at ht
    rw [ha', ha] at ht
    dsimp only at ht
    have hyl := hy.len
    refine ⟨b', off', _, _, ha', hb1, by rw [Go.Vx.size_setRow]; exact hcap, fun i u hu => ?_⟩
    have hil := (List.getElem?_eq_some_iff.1 hu).1
    rw [List.length_map] at hil
    rw [Go.Vx.get_setRow_lt _ _ _ _ (by omega)]
    exact hv i u hu
   ·exact ⟨b', off', c', fr', ha', hu.get hb' (fun ⟨q, hq, hqb⟩ => by rw [ha] at hq; cases hq; exact hbb hqb.symm), hcap, hv⟩
theorem Its.by_ {e : Enc} : ∀ {l : List Pc} {M : Parts}, Its w e l M → ∀ x ∈ l, ∃ b, By w x.bytes b
 | [], _, _, x, hx => by cases hx
 | y :: l, z :: M, h, x, hx => by
  rcases List.mem_cons.1 hx with rfl | hx
  ·exact ⟨_, h.1.by_⟩
  ·exact Its.by_ h.2 x hx
theorem Its.ty {e : Enc} {l : List Pc} {M : Parts} (h : Its w e l M) (u : Upd S w w') (hS : NoTy w S 5) : Its w' e l M :=
 h.upd u fun x hx k hk hSk => by
  obtain ⟨b, hb⟩ := h.by_ x hx
  obtain ⟨c, fr, hc⟩ := hb.blk_cells hk
  exact hS k hSk c fr hc
theorem Its.to {e : Enc} : ∀ {l : List Pc} {M : Parts}, Its w e l M → (∀ x ∈ l, ∀ b, By w x.bytes b → By w' x.bytes b) → Its w' e l M
 | [], [], _, _ => trivial
 | x :: l, y :: M, h, hb => ⟨⟨hb x List.mem_cons_self _ h.1.by_, h.1.sm, h.1.tag, h.1.ne, h.1.lo, h.1.hi⟩, Its.to h.2 fun z hz => hb z (List.mem_cons_of_mem _ hz)⟩
def Old (w W : World) (a0 a : Sl) : Prop := ∀ y b, By w y b → (∀ k, y.blk k → a0.blk k → top y ≤ top a0) → By W y b ∧ ∀ k, y.blk k → a.blk k → top y ≤ top a
theorem Old.ty {W W' : World} {a0 a : Sl} (h : Old w W a0 a) (u : Upd S W W') (hS : NoTy W S 5) : Old w W' a0 a := fun y b hy ht => ⟨(h y b hy ht).1.ty u hS, (h y b hy ht).2⟩
theorem Old.refl (w : World) (a : Sl) : Old w w a a := fun y b hy ht => ⟨hy, ht⟩
theorem no_ext (W : World) (t : TypeId) : NoTy W (fun _ => False) t := fun _ h => h.elim
end
section
variable {w w' W W' : World} {S : Nat → Prop} {p : Nat} {e : Enc} {lim na : Nat} {O : Nat → Prop} {M : Parts}
theorem nn_eqT {a : Addr} {K : Addr → World → Prop} : nn (some a) K = K a := funext fun _ => propext nn_some_iff
abbrev txO (e : Enc) (lim : Nat) (tp : Option Addr) (a : Sl) : Obj := .cells #[.int .i64 e.num, .int .i64 (lim : Int), .pointer tp, .slice a.a a.len a.cap] 107 (0, 0)
abbrev frLs (p b1 b2 b6 b7 : Nat) (ps : Sl) (f n : Nat) : List (Nat × Obj) := [(b7, .cells #[.int .i64 (n : Int)] 3 (0, 0)), (b6, .cells #[.int .i64 (f : Int)] 3 (0, 0)), (b2, .cells #[.slice ps.a ps.len ps.cap] 108 (0, 0)), (b1, .cells #[.pointer (some (at0 p))] 25 (0, 0))]
structure FrI (w W : World) (p : Nat) (e : Enc) (lim : Nat) (tp : Option Addr) (a0 : Sl) (b1 b2 b6 b7 : Nat) (a ps : Sl) (ab cb : Bs) (pl : List Pc) (M' : Parts) (n : Nat) : Prop where
 st : St (fun k => k = p ∨ a0.blk k) w W (frLs p b1 b2 b6 b7 ps (ab.length - cb.length) n)
 tx : W.heap[p]? = some (txO e lim tp a)
 own : SlOwn W 0 a 5 1 (bv ab)
 suf : ∃ x, ab = x ++ cb
 row : SlOwn W w.heap.size ps 112 7 (flat c112 (pl.map pcT))
 its : Its W e pl M'
 tops : ∀ x ∈ pl, ∀ k, x.bytes.blk k → a.blk k → top x.bytes ≤ top a
 pblk : ∀ x ∈ pl, ∀ k, x.bytes.blk k → a0.blk k ∨ w.heap.size ≤ k
 ablk : ∀ k, a.blk k → a0.blk k ∨ w.heap.size ≤ k
 old : Old w W a0 a
 cnt : pl.length + cb.length ≤ ab.length
variable {tp : Option Addr} {a0 a ps : Sl} {b1 b2 b6 b7 n : Nat} {ab cb : Bs} {pl : List Pc} {M' : Parts}
theorem FrI.ext (h : FrI w W p e lim tp a0 b1 b2 b6 b7 a ps ab cb pl M' n) (x : Ext W W') : FrI w W' p e lim tp a0 b1 b2 b6 b7 a ps ab cb pl M' n :=
 ⟨h.st.ext x, x.ext_get h.tx, h.own.ext x, h.suf, h.row.ext x, h.its.ext x, h.tops, h.pblk, h.ablk, h.old.ty x (no_ext _ _), h.cnt⟩
set_option maxHeartbeats 1000000 in
theorem shut_x {K : Unit → World → Prop} (h : FrI w W p e lim tp a0 b1 b2 b6 b7 a ps ab cb pl M' n) (hab : ab.length < 2 ^ 40)
  (hK : ∀ ps' pl' M'' n' W', FrI w W' p e lim tp a0 b1 b2 b6 b7 a ps' ab [] pl' M'' n' → aOf e M'' = aOf e M' ++ ats e cb → n' ≤ n → W.heap.size ≤ W'.heap.size → K () W') :
  callX Tryz.prog (do let d ← Deferred.ofValue (.func (.func 141) #[] #[.pointer (some (at0 b1)), .pointer (some (at0 b6)), .pointer (some (at0 b2)), .pointer (some (at0 b7))]) #[]; invoke d.target d.args : Sem Next) (.tup []) K W := by
 refine func_x (caps := #[.pointer (some (at0 b1)), .pointer (some (at0 b6)), .pointer (some (at0 b2)), .pointer (some (at0 b7))]) (by kernel_rfl) ?_
 refine F141_calls ?_
 unfold F141
 have hlen : ab.length = a.len := by have := h.own.len1; rwa [List.length_map] at this
 have hcl : cb.length ≤ ab.length := by obtain ⟨x, hx⟩ := h.suf; rw [hx]; simp
 have S0 := h.st
 refine S0.ld 3 rfl (x := some (at0 p)) rfl ?_
 simp only [nn_eqT, addr_add]
 refine ld_r h.tx (x := a) rfl (S0.ld 1 rfl (x := ((ab.length - cb.length : Nat) : Int)) rfl (sif_r (fun hc => ?_) (fun hc => ?_)))
 ·simp only [decide_eq_true_eq, gt_iff_lt] at hc
  have hcb : 0 < cb.length := by omega
  refine S0.drew fun W1 S1 e1 _ => ?_
  have h1 := h.ext e1
  refine S1.ld 2 rfl (x := ps) rfl (S1.ld 3 rfl (x := some (at0 p)) rfl ?_)
  simp only [nn_eqT, addr_add]
  refine ld_r h1.tx (x := e.num) rfl (S1.ld 3 rfl (x := some (at0 p)) rfl ?_)
  simp only [nn_eqT, addr_add]
  refine ld_r h1.tx (x := a) rfl (S1.ld 1 rfl (x := ((ab.length - cb.length : Nat) : Int)) rfl ?_)
  have hcap := h.own.in.le
  refine chk_r (by omega) ?_
  have hB1 : By W1 a ab := h1.own.in
  have c1 := hB1.cut (l := ((ab.length - cb.length : Nat) : Int)) (h := (a.len : Int)) (m := (a.len : Int)) (by omega) (by omega) (by omega) (by omega) (by omega)
  have d1 : (ab.drop ((ab.length - cb.length : Nat) : Int).toNat).take ((a.len : Int).toNat - ((ab.length - cb.length : Nat) : Int).toNat) = cb := by
   obtain ⟨x, hx⟩ := h.suf
   rw [Int.toNat_natCast, Int.toNat_natCast, List.take_of_length_le (by rw [List.length_drop]; omega)]
   have : ab.length - cb.length = x.length := by rw [hx]; simp
   rw [this, hx, List.drop_left]
  rw [d1] at c1
  have ct := cut_top hB1 (l := ((ab.length - cb.length : Nat) : Int)) (h := (a.len : Int)) (m := (a.len : Int)) (by omega) (by omega) (by omega)
  have cbk := fun k => cut_blk (s := a) (l := ((ab.length - cb.length : Nat) : Int)) (h := (a.len : Int)) (m := (a.len : Int)) (k := k)
  generalize Sl.cut a.a ((ab.length - cb.length : Nat) : Int) (a.len : Int) (a.len : Int) 1 = y at *
  refine newpart_call c1 (by omega) fun W2 e2 => ?_
  have h2 := h1.ext e2
  have S2 := h2.st
  refine S2.keep 2 rfl (v := .slice ps.a ps.len ps.cap) rfl ?_
  refine newO_r fun b15 W3 e3 n3 hb15 hz3 => ?_
  have h3 := h2.ext e3
  have S3 := h3.st
  refine S3.keep 2 rfl (v := .slice ps.a ps.len ps.cap) rfl ?_
  have hbox : SlX W3 ⟨some (at0 b15), 1, 1⟩ 7 (flat c112 [pcT (mkPc e y (-1) cb)]) := (SlIn.of_box n3 (n := 1) (sz := 7) rfl).x
  have hrl := SlOwn.lenR (cs := c112) h3.row (by decide)
  rw [List.length_map] at hrl
  have hcnt := h.cnt
  refine append_rx eParts eParts.ts_ (x := ⟨some (at0 b15), 1, 1⟩) h3.row hbox (Pc_one _) (by
   show (ps.len + 1 + (ps.len + 1) / 4 + 512) * 64 ≤ 2 ^ 48
   omega) (by have := S3.upd.size; omega) fun ps' W4 o4 l4 u4 k4 => ?_
  have nb4 : NoTy W3 ps.blk 5 := NoTy.blk h3.row.in (by decide)
  have nt4 : NoTy W3 ps.blk 107 := NoTy.blk h3.row.in (by decide)
  have e4 : flat c112 (pl.map pcT) ++ flat c112 [pcT (mkPc e y (-1) cb)] = flat c112 ((pl ++ [mkPc e y (-1) cb]).map pcT) := by rw [List.map_append, flat_append]; rfl
  rw [e4] at o4
  have tx4 : W4.heap[p]? = some (txO e lim tp a) := u4.get h3.tx fun hk => nt4 _ hk _ _ h3.tx
  have own4 := h3.own.ty u4 nb4
  have st4 : St (fun k => k = p ∨ a0.blk k) w W4 (frLs p b1 b2 b6 b7 ps (ab.length - cb.length) n) := S3.fresh u4 (fun k hk => .inr (h3.row.blk_ge hk)) (fun x hx hk => by
   obtain ⟨c, fr, hc'⟩ := h3.row.in.blk_cells hk
   have hl := (S3.loc x hx).1
   rw [hc'] at hl
   simp only [frLs, List.mem_cons, List.not_mem_nil, or_false] at hx
   rcases hx with rfl | rfl | rfl | rfl <;> cases hl)
  have its4 : Its W4 e (pl ++ [mkPc e y (-1) cb]) (M' ++ [(-1, cb)]) := by
   refine Its.app (h3.its.ty u4 nb4) ⟨⟨?_, rfl, rfl, ?_, Int.le_refl _, ?_⟩, trivial⟩
   ·exact ((c1.ext e2).ext e3).ty u4 nb4
   ·intro hn
    replace hn : cb = [] := hn
    rw [hn] at hcb; simp at hcb
   ·show (-1 : Int) + (cb.length : Int) ≤ 2 ^ 40; omega
  have old4 := h3.old.ty u4 nb4
  refine st4.stC 2 rfl (by show 0 < 1; decide) fun W5 S5 u5 => S5.stC 1 rfl (by show 0 < 1; decide) fun W6 S6 u6 => S6.stC 0 rfl (by show 0 < 1; decide) fun W7 S7 u7 => ?_
  have g2 : W4.heap[b2]? = some (.cells #[.slice ps.a ps.len ps.cap] 108 (0, 0)) := st4.at_ 2 rfl
  have g6 : W5.heap[b6]? = some (.cells #[.int .i64 ((ab.length - cb.length : Nat) : Int)] 3 (0, 0)) := S5.at_ 1 rfl
  have g7 : W6.heap[b7]? = some (.cells #[.int .i64 (n : Int)] 3 (0, 0)) := S6.at_ 0 rfl
  have tx5 : W5.heap[p]? = some (txO e lim tp a) := u5.get tx4 (fun hk => NoTy.box g2 (by decide) _ hk _ _ tx4)
  have tx6 : W6.heap[p]? = some (txO e lim tp a) := u6.get tx5 (fun hk => NoTy.box g6 (by decide) _ hk _ _ tx5)
  have tx7 : W7.heap[p]? = some (txO e lim tp a) := u7.get tx6 (fun hk => NoTy.box g7 (by decide) _ hk _ _ tx6)
  have hts : ∀ x ∈ pl ++ [mkPc e y (-1) cb], ∀ k, x.bytes.blk k → a.blk k → top x.bytes ≤ top a := by
   intro x hx
   rcases List.mem_append.1 hx with hx | hx
   ·exact h.tops x hx
   ·rw [List.mem_singleton.1 hx]; intro k _ _; exact ct
  have hpb : ∀ x ∈ pl ++ [mkPc e y (-1) cb], ∀ k, x.bytes.blk k → a0.blk k ∨ w.heap.size ≤ k := by
   intro x hx
   rcases List.mem_append.1 hx with hx | hx
   ·exact h.pblk x hx
   ·rw [List.mem_singleton.1 hx]; intro k hk; exact h.ablk k (cbk k hk)
  refine hK ps' (pl ++ [mkPc e y (-1) cb]) (M' ++ [(-1, cb)]) 0 W7 ⟨?_, tx7, ?_, ⟨ab, by simp⟩, ?_, ?_, hts, hpb, h.ablk, ?_, ?_⟩ ?_ (Nat.zero_le _) ?_
  ·have e0 : ((a.len : Nat) : Int) = ((ab.length - ([] : Bs).length : Nat) : Int) := by simp; omega
   rw [e0] at S7
   exact S7
  ·exact ((own4.box g2 (by decide) u5).box g6 (by decide) u6).box g7 (by decide) u7
  ·exact ((o4.box g2 (by decide) u5).box g6 (by decide) u6).box g7 (by decide) u7
  ·exact ((its4.ty u5 (NoTy.box g2 (by decide))).ty u6 (NoTy.box g6 (by decide))).ty u7 (NoTy.box g7 (by decide))
  ·exact ((old4.ty u5 (NoTy.box g2 (by decide))).ty u6 (NoTy.box g6 (by decide))).ty u7 (NoTy.box g7 (by decide))
  ·simp; omega
  ·rw [aOf_app]; simp [aOf]
  ·have := e1.size; have := e2.size; have := e3.size; have := u4.size; have := u5.size; have := u6.size; have := u7.size; omega
 ·simp only [decide_eq_false_iff_not, gt_iff_lt] at hc
  have hcb : cb = [] := List.length_eq_zero_iff.1 (by omega)
  subst hcb
  exact hK ps pl M' n W h (by rw [ats_nil, List.append_nil]) (Nat.le_refl _) (Nat.le_refl _)
theorem Old.trans {w W W' : World} {a0 a a' : Sl} (h : Old w W a0 a) (h' : Old W W' a a') : Old w W' a0 a' := fun y b hy ht => h' y b (h y b hy ht).1 (h y b hy ht).2
set_option maxHeartbeats 1000000 in
theorem fresh_call {s : Sl} {t : TypeId} {put : List Int} (hs : SlIn w s t 1 (iv put)) (hsep : ∀ k, s.blk k → k ≠ p ∧ ¬ a0.blk k) (hfit : Fit e put) (tx : w.heap[p]? = some (txO e lim tp a0)) (own : SlOwn w 0 a0 5 1 (bv ab)) (hab : ab.length + (bts e put).length < 2 ^ 40) (hput : put.length < 2 ^ 40) {K : Sl → World → Prop}
  (hK : ∀ ps a pl M' W, W.heap[p]? = some (txO e lim tp a) → SlOwn W 0 a 5 1 (bv (ab ++ bts e put)) → SlOwn W w.heap.size ps 112 7 (flat c112 (pl.map pcT)) → Its W e pl M' → aOf e M' = prs e put → (∀ x ∈ pl, ∀ k, x.bytes.blk k → a.blk k → top x.bytes ≤ top a) →
   (∀ x ∈ pl, ∀ k, x.bytes.blk k → a0.blk k ∨ w.heap.size ≤ k) → (∀ k, a.blk k → a0.blk k ∨ w.heap.size ≤ k) → Old w W a0 a → Upd (fun k => k = p ∨ a0.blk k) w W → pl.length ≤ ab.length + (bts e put).length → K ps W) :
  callT Tryz.prog 113 #[.pointer (some (at0 p)), .slice s.a s.len s.cap] (.one (.one .sl)) K w := by
 refine F113_calls ?_
 unfold F113
 have hlen : put.length = s.len := by have := hs.len1; rwa [List.length_map] at this
 have hal : ab.length = a0.len := by have := own.len1; rwa [List.length_map] at this
 have hpw := lt_of_heap tx
 refine (St.startM (fun k => k = p ∨ a0.blk k) w (fun k hk => hk.elim (fun h => h ▸ hpw) fun h => own.in.blk_lt h)).newO fun b1 w1 S1 e1 => S1.newO fun b2 w2 S2 e2 => S2.ld 1 rfl (x := some (at0 p)) rfl ?_
 simp only [nn_eqT, addr_add]
 have x2 := e1.trans e2
 refine ld_r (x2.ext_get tx) (x := a0) rfl (S2.newO fun b6 w3 S3 e3 => S3.stC 0 rfl (by show 0 < 1; decide) fun w4 S4 u4 => S4.newO fun b7 w5 S5 e5 => S5.stC 0 rfl (by show 0 < 1; decide) fun w6 S6 u6 => ?_)
 have g6 : w3.heap[b6]? = some (.cells #[.int .i64 0] 3 (0, 0)) := S3.at_ 0 rfl
 have g7 : w5.heap[b7]? = some (.cells #[.int .i64 0] 3 (0, 0)) := S5.at_ 0 rfl
 have x3 := x2.trans e3
 have F0 : FrI w w6 p e lim tp a0 b1 b2 b6 b7 a0 ⟨none, 0, 0⟩ ab [] [] [] 0 := by
  refine ⟨?_, ?_, ?_, ⟨ab, by simp⟩, SlOwn.nil _ _ _ _, trivial, (fun x hx => by cases hx), (fun x hx => by cases hx), fun k hk => .inl hk, ?_, by simp⟩
  ·have e0 : ((a0.len : Nat) : Int) = ((ab.length - ([] : Bs).length : Nat) : Int) := by simp; omega
   rw [e0] at S6
   exact S6
  ·have t3 := x3.ext_get tx
   have t4 : w4.heap[p]? = some (txO e lim tp a0) := u4.get t3 (fun hk => NoTy.box g6 (by decide) _ hk _ _ t3)
   have t5 := e5.ext_get t4
   exact u6.get t5 (fun hk => NoTy.box g7 (by decide) _ hk _ _ t5)
  ·exact (((own.ext x3).box g6 (by decide) u4).ext e5).box g7 (by decide) u6
  ·exact ((((Old.refl w a0).ty x3 (no_ext _ _)).ty u4 (NoTy.box g6 (by decide))).ty e5 (no_ext _ _)).ty u6 (NoTy.box g7 (by decide))
 clear S1 S2 S3 S4 S5 S6
 have tkl : ∀ i j : Nat, j ≤ i → (bts e ((put.take i).drop j)).length ≤ (bts e put).length := by
  intro i j _
  have : put = put.take i ++ put.drop i := (List.take_append_drop i put).symm
  have h2 : put.take i = (put.take i).take j ++ (put.take i).drop j := (List.take_append_drop j _).symm
  have h3 : (bts e put).length = (bts e (put.take i)).length + (bts e (put.drop i)).length := by conv => lhs; rw [this]; rw [bts_app, List.length_append]
  have h4 : (bts e (put.take i)).length = (bts e ((put.take i).take j)).length + (bts e ((put.take i).drop j)).length := by conv => lhs; rw [h2]; rw [bts_app, List.length_append]
  omega
 have abl : ∀ i, (ab ++ bts e (put.take i)).length < 2 ^ 40 := fun i => by have := tkl i 0 (Nat.zero_le _); rw [List.length_append]; simp only [List.drop_zero] at this; omega
 have fit2 : ∀ i j, Fit e ((put.take i).drop j) := fun i j x hx => hfit x (List.mem_of_mem_take (List.mem_of_mem_drop hx))
 have glue : ∀ i j, prs e ((put.take i).take j) ++ ats e (bts e ((put.take i).drop j)) = prs e (put.take i) := fun i j => by
  rw [ats_bts (fit2 i j)]; unfold prs; rw [← List.map_append, List.take_append_drop]
 have shut : ∀ {a ps i j pl M' n} {W : World} {K : Unit → World → Prop}, j ≤ i → FrI w W p e lim tp a0 b1 b2 b6 b7 a ps (ab ++ bts e (put.take i)) (bts e ((put.take i).drop j)) pl M' n → aOf e M' = prs e ((put.take i).take j) → (∀ ps' pl' M'' n' W', FrI w W' p e lim tp a0 b1 b2 b6 b7 a ps' (ab ++ bts e (put.take i)) [] pl' M'' n' → aOf e M'' = prs e (put.take i) → n' ≤ n → K () W') →
   callX Tryz.prog (do let d ← Deferred.ofValue (.func (.func 141) #[] #[.pointer (some (at0 b1)), .pointer (some (at0 b6)), .pointer (some (at0 b2)), .pointer (some (at0 b7))]) #[]; invoke d.target d.args : Sem Next) (.tup []) K W := by
  intro a ps i j pl M' n W K hj F hM hK
  exact shut_x F (abl i) fun ps' pl' M'' n' W' F' hM' hn _ => hK ps' pl' M'' n' W' F' (by rw [hM', hM, glue]) hn
 refine join_r (fun _ W => ∃ a ps pl M' n j, j ≤ put.length ∧ FrI w W p e lim tp a0 b1 b2 b6 b7 a ps (ab ++ bts e (put.take put.length)) (bts e ((put.take put.length).drop j)) pl M' n ∧ aOf e M' = prs e ((put.take put.length).take j)) ?_ ?_
 ·refine sloop_r (fun x W => ∃ a ps pl M' n i j, x = (((i : Nat) : Int), ()) ∧ i ≤ put.length ∧ j ≤ i ∧ n ≤ i ∧ FrI w W p e lim tp a0 b1 b2 b6 b7 a ps (ab ++ bts e (put.take i)) (bts e ((put.take i).drop j)) pl M' n ∧ aOf e M' = prs e ((put.take i).take j)) (fun x _ => ((put.length : Int) - x.1).toNat) ⟨a0, ⟨none, 0, 0⟩, [], [], 0, 0, 0, rfl, Nat.zero_le _, Nat.le_refl _, Nat.le_refl _, by simpa [bts] using F0, by simp [aOf, prs]⟩ ?_
  rintro _ W ⟨a, ps, pl, M', n, i, j, rfl, hi, hj, hn, F, hM⟩
  refine sif_r (fun hc => ?_) (fun hc => ?_)
  ·simp only [decide_eq_true_eq] at hc
   obtain ⟨v, hv⟩ : ∃ v, put[i]? = some v := ⟨_, List.getElem?_eq_getElem (by omega)⟩
   have hf := hfit v (List.mem_of_getElem? hv)
   have ew : IntKind.wrap .i64 ((i : Int) + 1) = ((i + 1 : Nat) : Int) := by rw [wrap64 (by omega) (by omega)]; omega
   dsimp only
   rw [ew]
   refine join_r (fun _ W => ∃ a ps pl M' n j, j ≤ i ∧ n ≤ i + 1 ∧ FrI w W p e lim tp a0 b1 b2 b6 b7 a ps (ab ++ bts e (put.take (i + 1))) (bts e ((put.take (i + 1)).drop j)) pl M' n ∧ aOf e M' = prs e ((put.take (i + 1)).take j)) ?_ ?_
   ·have hsW : SlIn W s t 1 (iv put) := hs.upd F.st.upd fun k hk hSk => by
     have := hsep k hk
     rcases hSk with h | h
     ·exact this.1 h
     ·exact this.2 h
    refine ix_ld (c := .int .i64) (xs := put) hsW (by omega) (x := v) (by rw [Int.toNat_natCast]; exact hv) fun q => ?_
    refine join_r (fun x W' => x = (true, ()) ∧ W = W') ?_ ?_
    ·refine sif_r (fun h1 => sif_r (fun h2 => ⟨rfl, rfl⟩) (fun h2 => ⟨tupb ?_, rfl⟩)) (fun h1 => ?_)
     ·simp only [decide_eq_true_eq, decide_eq_false_iff_not, gt_iff_lt, ge_iff_le, iff_true] at *
      rcases hf.1 with h | h <;> omega
     ·simp only [decide_eq_false_iff_not, ge_iff_le] at h1
      rcases hf.1 with h | h <;> omega
    rintro _ _ ⟨rfl, rfl⟩
    refine join_r (fun _ W => ∃ ps pl M' n j, j ≤ i ∧ n ≤ i ∧ FrI w W p e lim tp a0 b1 b2 b6 b7 a ps (ab ++ bts e (put.take i)) (bts e ((put.take i).drop j)) pl M' n ∧ aOf e M' = prs e ((put.take i).take j)) ?_ ?_
    ·refine join_r (fun x W' => x = (decide (n = 128), ()) ∧ W = W') ?_ ?_
     ·refine sif_false (F.st.ld 0 rfl (x := (n : Int)) rfl ⟨tupb ?_, rfl⟩)
      simp only [beq_iff_eq, decide_eq_true_eq]; omega
     rintro _ _ ⟨rfl, rfl⟩
     refine sif_r (fun _ => shut hj F hM fun ps' pl' M'' n' W' F' hM' hn' => ⟨ps', pl', M'', n', i, Nat.le_refl _, by omega, ?_, ?_⟩) (fun _ => ⟨ps, pl, M', n, j, hj, hn, F, hM⟩)
     ·rw [List.drop_eq_nil_of_le (by rw [List.length_take]; omega)]; exact F'
     ·rw [hM', List.take_take, Nat.min_self]
    clear F hM hn hj ps pl M' n j
    rintro _ W1 ⟨ps, pl, M', n, j, hj, hn, F, hM⟩
    refine F.st.ld 3 rfl (x := some (at0 p)) rfl ?_
    simp only [nn_eqT, addr_add]
    refine ld_r F.tx (x := e.num) rfl (newO_r fun b27 W2 e2' n2 hb27 _ => ?_)
    have F2 := F.ext e2'
    have hbox : SlIn W2 ⟨some (at0 b27), 1, 1⟩ 3 1 [.int .i64 v] := SlIn.of_box n2 (n := 1) (sz := 1) rfl
    refine enc1_call (s := ⟨some (at0 b27), 1, 1⟩) (t := 3) (e := e) (a := v) hf.2 hbox fun s28 W3 o28 e3' => ?_
    have F3 := F2.ext e3'
    have S3 := F3.st
    show drew _ W3
    refine S3.drew fun W4 S4 e4' _ => ?_
    have F4 := F3.ext e4'
    have o28 := o28.ext e4'
    refine F4.st.ld 3 rfl (x := some (at0 p)) rfl (F4.st.ld 3 rfl (x := some (at0 p)) rfl ?_)
    simp only [nn_eqT, addr_add]
    have tkv : put.take (i + 1) = put.take i ++ [v] := by rw [List.take_add_one, hv]; rfl
    have ptl : (bts e (put.take i)).length + (pt e v).length ≤ (bts e put).length := by
     have := tkl (i + 1) 0 (Nat.zero_le _)
     rw [List.drop_zero, tkv, bts_app, List.length_append] at this
     simpa [bts] using this
    have s28l : (pt e v).length = s28.len := by have := o28.len1; rwa [List.length_map] at this
    have al4 : (ab ++ bts e (put.take i)).length = a.len := by have := F4.own.len1; rwa [List.length_map] at this
    have al4' := al4
    rw [List.length_append] at al4'
    refine ld_r F4.tx (x := a) rfl (app_by F4.own o28.in.x (by omega) (Nat.zero_le _) fun a' W5 o5 l5 u5 k5 old5 => ?_)
    have nb5 : ∀ t, t ≠ 5 → NoTy W4 a.blk t := fun t ht => NoTy.blk F4.own.in (fun h => ht h.symm)
    have tx5 : W5.heap[p]? = some (txO e lim tp a) := u5.get F4.tx fun hk => nb5 107 (by decide) _ hk _ _ F4.tx
    have st5 : St (fun k => k = p ∨ a0.blk k) w W5 (frLs p b1 b2 b6 b7 ps ((ab ++ bts e (put.take i)).length - (bts e ((put.take i).drop j)).length) n) := F4.st.fresh u5 (fun k hk => (F4.ablk k hk).imp .inr id) (fun x hx hk => by
     obtain ⟨c, fr, hc'⟩ := F4.own.in.blk_cells hk
     have hl := (F4.st.loc x hx).1
     rw [hc'] at hl
     simp only [frLs, List.mem_cons, List.not_mem_nil, or_false] at hx
     rcases hx with rfl | rfl | rfl | rfl <;> cases hl)
    have row5 := F4.row.ty u5 (nb5 112 (by decide))
    have its5 : Its W5 e pl M' := F4.its.to fun x hx b hb => (old5 x.bytes b hb (F4.tops x hx)).1
    have tops5 : ∀ x ∈ pl, ∀ k, x.bytes.blk k → a'.blk k → top x.bytes ≤ top a' := fun x hx => by
     obtain ⟨b, hb⟩ := F4.its.by_ x hx
     exact (old5 x.bytes b hb (F4.tops x hx)).2
    have oldT : Old w W5 a0 a' := F4.old.trans old5
    refine st5.keep 3 rfl (v := .pointer (some (at0 p))) rfl ?_
    refine stC_r tx5 (by show 3 < 4; decide) fun W6 u6 n6 _ => ?_
    have n6 : W6.heap[p]? = some (txO e lim tp a') := n6
    have nt6 : ∀ t, t ≠ 107 → NoTy W5 (fun k => k = p) t := fun t ht => NoTy.box tx5 (fun h => ht h.symm)
    have st6 : St (fun k => k = p ∨ a0.blk k) w W6 (frLs p b1 b2 b6 b7 ps ((ab ++ bts e (put.take i)).length - (bts e ((put.take i).drop j)).length) n) := st5.step u6 fun k hk => .inl hk
    refine st6.ld 0 rfl (x := (n : Int)) rfl (st6.stC 0 rfl (by show 0 < 1; decide) fun W7 S7 u7 => ?_)
    have g7' : W6.heap[b7]? = some (.cells #[.int .i64 (n : Int)] 3 (0, 0)) := st6.at_ 0 rfl
    have ewn : IntKind.wrap .i64 ((n : Int) + 1) = ((n + 1 : Nat) : Int) := by rw [wrap64 (by omega) (by omega)]; omega
    rw [ewn] at S7
    have cbe : bts e ((put.take (i + 1)).drop j) = bts e ((put.take i).drop j) ++ pt e v := by
     rw [tkv, List.drop_append_of_le_length (by rw [List.length_take]; omega), bts_app]; simp [bts]
    have abe : ab ++ bts e (put.take (i + 1)) = ab ++ bts e (put.take i) ++ pt e v := by rw [tkv, bts_app, List.append_assoc]; simp [bts]
    have F7 : FrI w W7 p e lim tp a0 b1 b2 b6 b7 a' ps (ab ++ bts e (put.take (i + 1))) (bts e ((put.take (i + 1)).drop j)) pl M' (n + 1) := by
     rw [cbe, abe]
     refine ⟨?_, ?_, ?_, ?_, ?_, ?_, tops5, F4.pblk, ?_, ?_, ?_⟩
     ·rw [@List.length_append _ (ab ++ bts e (put.take i)), @List.length_append _ (bts e ((put.take i).drop j)), Nat.add_sub_add_right]
      exact S7
     ·exact u7.get n6 (fun hk => NoTy.box g7' (by decide) _ hk _ _ n6)
     ·exact (o5.ty u6 (nt6 _ (by decide))).box g7' (by decide) u7
     ·obtain ⟨x, hx⟩ := F4.suf
      exact ⟨x, by rw [hx, List.append_assoc]⟩
     ·exact (row5.ty u6 (nt6 _ (by decide))).box g7' (by decide) u7
     ·exact (its5.ty u6 (nt6 _ (by decide))).ty u7 (NoTy.box g7' (by decide))
     ·intro k hk
      rcases k5 k hk with h | h
      ·exact F4.ablk k h
      ·have := F4.st.upd.size; exact .inr (by omega)
     ·exact (oldT.ty u6 (nt6 _ (by decide))).ty u7 (NoTy.box g7' (by decide))
     ·have := F4.cnt
      rw [@List.length_append _ (ab ++ bts e (put.take i)), @List.length_append _ (bts e ((put.take i).drop j))]
      omega
    refine sif_false ⟨a', ps, pl, M', n + 1, j, hj, by omega, F7, ?_⟩
    rw [hM, tkv, List.take_append_of_le_length (by rw [List.length_take]; omega)]
   ·rintro _ W' ⟨a, ps, pl, M', n, j, hj, hn, F, hM⟩
    exact ⟨⟨a, ps, pl, M', n, i + 1, j, rfl, by omega, by omega, hn, F, hM⟩, by omega⟩
  ·simp only [decide_eq_false_iff_not] at hc
   have : i = put.length := by omega
   subst this
   exact ⟨a, ps, pl, M', n, j, hj, F, hM⟩
 ·rintro _ W ⟨a, ps, pl, M', n, j, hj, F, hM⟩
  refine shut hj F hM fun ps' pl' M'' n' W' F' hM' _ => ?_
  have hcnt := F'.cnt
  rw [List.take_length] at F' hM' hcnt
  refine F'.st.ld 2 rfl (x := ps') rfl (hK ps' a pl' M'' W' F'.tx F'.own F'.row F'.its hM' F'.tops F'.pblk F'.ablk F'.old F'.st.upd ?_)
  rw [List.length_append] at hcnt
  simpa using hcnt
end
end Go.Proofs.YtabcpghhfeplaaaGreat
