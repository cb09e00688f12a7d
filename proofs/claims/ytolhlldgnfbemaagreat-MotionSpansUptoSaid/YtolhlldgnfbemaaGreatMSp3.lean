/- YtolhlldgnfbemaaGreatMSp3: parts of the proof, put together by program. -/
import Derived.Test.YtolhlldgnfbemaaGreatMSp2
set_option linter.unusedVariables false
set_option linter.unusedSimpArgs false
set_option linter.unusedSectionVars false
set_option maxRecDepth 100000
namespace Go.Proofs.YtolhlldgnfbemaaGreat
open Go Go.Vx
noncomputable def F23 (a0 : Int) (a1 : Sl) (a2 : Int) (K : (Option Addr × Int × Unit) → World → Prop) : World → Prop :=
 join (S := Bool × Unit) (fun J1 =>
 sif (decide (a0 < (1 : Int))) (
 J1 (true, ())) (
 J1 ((decide (a0 > (4 : Int))), ()))) fun (s2 : Bool × Unit) =>
 sif s2.1 (
 K (none, (10 : Int), ())) (
 join (S := Bool × Unit) (fun J3 =>
 sif (decide (a2 < (0 : Int))) (
 J3 (true, ())) (
 J3 ((decide (a2 > (65536 : Int))), ()))) fun (s4 : Bool × Unit) =>
 sif s4.1 (
 K (none, (1 : Int), ())) (
 sif (decide (((a1.len : Nat) : Int) > a2)) (
 K (none, (50 : Int), ())) (
 rawT Tryz.prog (.one (.one .sl)) (Instr.makeSlice 22 (.int .i64 ((a1.len : Nat) : Int)) (.int .i64 ((a1.len : Nat) : Int))) fun (x5 : Sl) =>
 rawT Tryz.prog (.one (.one (.int .i64))) (Builtin.copy_ #[22, 22] 3 #[(.slice x5.a x5.len x5.cap), (.slice a1.a a1.len a1.cap)]) fun (x6 : Int) =>
 newO (.cells #[(.int .i64 a0), (.int .i64 a2), (.pointer none), (.slice none 0 0)] 86) fun b7 =>
 join (S := Sl × Unit) (fun J8 =>
 sloop (S := Sl × Int × Unit) (fun (s10 : Sl × Int × Unit) again11 =>
 sif (decide (s10.2.1 < ((x5.len : Nat) : Int))) (
 join (S := Int × Unit) (fun J12 =>
 sloop (S := Int × Int × Unit) (fun (s14 : Int × Int × Unit) again15 =>
 join (S := Bool × Unit) (fun J16 =>
 sif (decide (s14.1 < ((x5.len : Nat) : Int))) (
 J16 ((decide (s14.2.1 < (128 : Int))), ())) (
 J16 (false, ()))) fun (s17 : Bool × Unit) =>
 sif s17.1 (
 callT Tryz.prog 53 #[(.int .i64 a0), (.slice x5.a x5.len x5.cap), (.int .i64 s14.1)] (.tup [(.one (.int .i64)), (.one (.int .i64))]) fun (x18 : (Int × Int × Unit)) =>
 again15 ((IntKind.wrap .i64 (s14.1 + x18.2.1)), (IntKind.wrap .i64 (s14.2.1 + (1 : Int))), ())) (
 J12 (s14.1, ()))) (s10.2.1, (0 : Int), ())) fun (s13 : Int × Unit) =>
 slc x5.a s10.2.1 s13.1 s13.1 x5.cap 1 fun x19 =>
 callT Tryz.prog 54 #[(.int .i64 a0), (.slice x19.a x19.len x19.cap), (.int .i64 s10.2.1)] (.one (.agg c93)) fun (x20 : (Sl × Int × Int × Int × Int × Bool × Bool × Unit)) =>
 newO (.cells #[(.slice x20.1.a x20.1.len x20.1.cap), (.int .i64 x20.2.1), (.int .i64 x20.2.2.1), (.int .i64 x20.2.2.2.1), (.int .i64 x20.2.2.2.2.1), (.bool x20.2.2.2.2.2.1), (.bool x20.2.2.2.2.2.2.1)] 93) fun b21 =>
 rawT Tryz.prog (.one (.one .sl)) (Builtin.append_ #[87, 87] 87 #[(.slice s10.1.a s10.1.len s10.1.cap), (.slice (some (at0 b21)) 1 1)]) fun (x22 : Sl) =>
 again11 (x22, s13.1, ())) (
 J8 (s10.1, ()))) (⟨none, 0, 0⟩, (0 : Int), ())) fun (s9 : Sl × Unit) =>
 callT Tryz.prog 55 #[(.slice s9.1.a s9.1.len s9.1.cap)] (.one (.agg c84)) fun (x23 : (Option Addr × Unit)) =>
 nn (some (at0 b7)) fun p24 =>
 aggSt (p24.add 2) (.agg (Cells.vals c84 x23).toArray) 1 <|
 K ((some (at0 b7)), (0 : Int), ()))))
noncomputable def h23 : Hint := (hS (hR 2) (hS (.block (hJ (8323072, [(16, tB)]) (.region [] (.ops 3 (.split 19 (.skips 2 (hO 2)) (hO 4)))) (hC (hS (hR 2) hL) (hJ (1065353216, [(23, tB)]) (.region [] (.ops 3 (.split 26 (.skips 2 (hO 2)) (hO 4)))) (hC (hS (hR 2) hL) (hS (hR 5) (hC (hS (hR 2) hL) hL))))))) (hS (hR 4) (hS (hR 3) (hS (hR 5) (hS (hR 1) (hJ (4835703278423332326800384, [(10, tS)]) (hS (hR 1) (.block (.loop 4835703278423332326800384 [(10, tS), (11, tI)] (hS (hS (hR 4) (hC hL hL)) (.block (hS (hR 3) (hJ (1180590494817504522240, [(12, tI)]) (.block (.loop 1180590494817504522240 [(12, tI), (13, tI)] (hS (hJ (287104476244869120, [(57, tB)]) (.region [] (.ops 5 (.split 54 (hO 3) (.skips 2 (hO 1))))) (hC hL hL)) (hS (.block (hS (hR 9) (hR 4))) (hR 3))))) (hS (hR 12) (hR 2))))))))) (hS (hR 6) (hS (hR 3) hL)))))))))
theorem F23_calls {a0 : Int} {a1 : Sl} {a2 : Int} {K : (Option Addr × Int × Unit) → World → Prop} {w : World} (h : F23 a0 a1 a2 K w) : callT Tryz.prog 23 #[(.int .i64 a0), (.slice a1.a a1.len a1.cap), (.int .i64 a2)] (.tup [(.one .ptr), (.one (.int .i64))]) K w := tied tabOk Tryz.func23 h23 [(.int .i64 a0), (.slice a1.a a1.len a1.cap), (.int .i64 a2)] h
noncomputable def F25 (a0 : Option Addr) (a1 : Int) (a2 : Int) (K : Sl → World → Prop) : World → Prop :=
 newO (.cells #[(.slice none 0 0)] 37) fun b1 =>
 callT Tryz.prog 57 #[(.pointer a0), (.int .i64 a1), (.int .i64 a2), (.func (Fn.func 58) #[] #[(.pointer (some (at0 b1)))])] (.tup []) fun (x2 : (Unit)) =>
 ld (.sl) (at0 b1) fun (x3 : Sl) =>
 K x3
noncomputable def h25 : Hint := (hS (hR 1) (hS (hR 1) (hS (hR 5) (hS (hR 2) hL))))
theorem F25_calls {a0 : Option Addr} {a1 : Int} {a2 : Int} {K : Sl → World → Prop} {w : World} (h : F25 a0 a1 a2 K w) : callT Tryz.prog 25 #[(.pointer a0), (.int .i64 a1), (.int .i64 a2)] (.one (.one .sl)) K w := tied tabOk Tryz.func25 h25 [(.pointer a0), (.int .i64 a1), (.int .i64 a2)] h
noncomputable def F34 (a0 : Option Addr) (a1 : Sl) (K : Int → World → Prop) : World → Prop :=
 callT Tryz.prog 63 #[(.pointer a0), (.slice a1.a a1.len a1.cap)] (.one (.one (.int .i64))) fun (x1 : Int) =>
 sif (x1 != (0 : Int)) (
 K x1) (
 join (S := Unit) (fun J2 =>
 sloop (S := Int × Unit) (fun (s4 : Int × Unit) again5 =>
 sif (decide (s4.1 ≥ (0 : Int))) (
 join (S := Unit) (fun J6 =>
 ix a1.a a1.len s4.1 fun p8 =>
 lds c103 (p8.add (scaled (Int.toNat s4.1) 3)) fun (x9 : (Int × Int × Sl × Unit)) =>
 newO (.cells #[(.int .i64 (0 : Int)), (.int .i64 (0 : Int)), (.slice none 0 0)] 103) fun b10 =>
 aggSt (at0 b10) (.agg (Cells.vals c103 x9).toArray) 3 <|
 join (S := Bool × Unit) (fun J11 =>
 ld (.int .i64) (at0 b10) fun (x13 : Int) =>
 ld (.int .i64) (⟨b10, 1, none⟩ : Addr) fun (x14 : Int) =>
 sif (decide (x13 < x14)) (
 J11 (true, ())) (
 ld (.sl) (⟨b10, 2, none⟩ : Addr) fun (x15 : Sl) =>
 J11 ((decide (((x15.len : Nat) : Int) > (0 : Int))), ()))) fun (s12 : Bool × Unit) =>
 sif s12.1 (
 ld (.int .i64) (at0 b10) fun (x16 : Int) =>
 ld (.int .i64) (⟨b10, 1, none⟩ : Addr) fun (x17 : Int) =>
 ld (.sl) (⟨b10, 2, none⟩ : Addr) fun (x18 : Sl) =>
 callT Tryz.prog 64 #[(.pointer a0), (.int .i64 x16), (.int .i64 x17), (.slice x18.a x18.len x18.cap)] (.tup []) fun (x19 : (Unit)) =>
 J6 ()) (
 J6 ())) fun (s7 : Unit) =>
 again5 ((IntKind.wrap .i64 (s4.1 - (1 : Int))), ())) (
 J2 ())) ((IntKind.wrap .i64 (((a1.len : Nat) : Int) - (1 : Int))), ())) fun (s3 : Unit) =>
 K (0 : Int))
noncomputable def h34 : Hint := (hS (hR 1) (hS (hS (hR 4) (hS (hR 2) (hC (hS (hR 2) hL) hL))) (hJ (17592186028224, []) (hS (hR 4) (.block (.loop 17592185913536 [(6, tI)] (hS (hS (hR 2) (hC hL hL)) (hJ (17592183947392, []) (.block (hS (hR 6) (hJ (68685922304, [(35, tB)]) (.region [] (.ops 6 (.split 30 (.skips 4 (hO 1)) (hO 5)))) (hC (hR 8) hL)))) (hR 3)))))) (hS (hR 1) hL))))
theorem F34_calls {a0 : Option Addr} {a1 : Sl} {K : Int → World → Prop} {w : World} (h : F34 a0 a1 K w) : callT Tryz.prog 34 #[(.pointer a0), (.slice a1.a a1.len a1.cap)] (.one (.one (.int .i64))) K w := tied tabOk Tryz.func34 h34 [(.pointer a0), (.slice a1.a a1.len a1.cap)] h
noncomputable def F37 (a0 : Option Addr) (K : Int → World → Prop) : World → Prop :=
 nn a0 fun p1 =>
 lds c84 (p1.add 2) fun (x2 : (Option Addr × Unit)) =>
 callT Tryz.prog 65 #[(.agg (Cells.vals c84 x2).toArray)] (.one (.agg c91)) fun (x3 : (Int × Int × Int × Bool × Bool × Unit)) =>
 K x3.1
noncomputable def h37 : Hint := (hS (hR 1) (hS (hR 7) hL))
theorem F37_calls {a0 : Option Addr} {K : Int → World → Prop} {w : World} (h : F37 a0 K w) : callT Tryz.prog 37 #[(.pointer a0)] (.one (.one (.int .i64))) K w := tied tabOk Tryz.func37 h37 [(.pointer a0)] h
noncomputable def F50 (a0 : Option Addr) (a1 : Int) (K : Int → World → Prop) : World → Prop :=
 sif (decide (a1 ≤ (0 : Int))) (
 K (0 : Int)) (
 callT Tryz.prog 37 #[(.pointer a0)] (.one (.one (.int .i64))) fun (x1 : Int) =>
 sif (decide (a1 ≥ x1)) (
 nn a0 fun p2 =>
 lds c84 (p2.add 2) fun (x3 : (Option Addr × Unit)) =>
 callT Tryz.prog 65 #[(.agg (Cells.vals c84 x3).toArray)] (.one (.agg c91)) fun (x4 : (Int × Int × Int × Bool × Bool × Unit)) =>
 K x4.2.2.1) (
 callT Tryz.prog 83 #[(.pointer a0), (.int .i64 a1)] (.one (.agg c91)) fun (x5 : (Int × Int × Int × Bool × Bool × Unit)) =>
 newO (.cells #[(.int .i64 (0 : Int)), (.int .i64 (0 : Int)), (.int .i64 (0 : Int)), (.bool false), (.bool false)] 91) fun b6 =>
 aggSt (at0 b6) (.agg (Cells.vals c91 x5).toArray) 5 <|
 join (S := Bool × Unit) (fun J7 =>
 ld (.bool) (⟨b6, 4, none⟩ : Addr) fun (x9 : Bool) =>
 sif x9 (
 callT Tryz.prog 25 #[(.pointer a0), (.int .i64 a1), (.int .i64 (IntKind.wrap .i64 (a1 + (1 : Int))))] (.one (.one .sl)) fun (x10 : Sl) =>
 ix x10.a x10.len (0 : Int) fun p11 =>
 ld (.int .i64) (p11.add (scaled (Int.toNat (0 : Int)) 1)) fun (x12 : Int) =>
 J7 ((x12 == (10 : Int)), ())) (
 J7 (false, ()))) fun (s8 : Bool × Unit) =>
 sif s8.1 (
 ld (.int .i64) (⟨b6, 2, none⟩ : Addr) fun (x13 : Int) =>
 K (IntKind.wrap .i64 (x13 - (1 : Int)))) (
 ld (.int .i64) (⟨b6, 2, none⟩ : Addr) fun (x14 : Int) =>
 K x14)))
noncomputable def h50 : Hint := (hS (hR 1) (hS (.block (hS (hR 3) (hC (hS (hR 1) hL) (hS (hR 5) (hC (hS (hR 7) hL) hL))))) (hS (hR 5) (hS (hJ (34351349760, [(34, tB)]) (.region [] (.ops 3 (.split 25 (hO 9) (.skips 8 (hO 1))))) (hC (hS (hR 4) hL) hL)) (hS (hR 3) hL)))))
theorem F50_calls {a0 : Option Addr} {a1 : Int} {K : Int → World → Prop} {w : World} (h : F50 a0 a1 K w) : callT Tryz.prog 50 #[(.pointer a0), (.int .i64 a1)] (.one (.one (.int .i64))) K w := tied tabOk Tryz.func50 h50 [(.pointer a0), (.int .i64 a1)] h
noncomputable def F53 (a0 : Int) (a1 : Sl) (a2 : Int) (K : (Int × Int × Unit) → World → Prop) : World → Prop :=
 callT Tryz.prog 92 #[(.int .i64 a0)] (.one (.one .any)) fun (x1 : Value) =>
 join (S := Bool × Unit) (fun J2 =>
 rdB Tryz.prog (do eqGuard .eql 118 (Operand.tmp 11) (Operand.const Value.nilIface) x1 .nilIface; binOp .eql 118 x1 .nilIface : Sem Value) fun r4 =>
 sif r4 (
 J2 (true, ())) (
 sif (decide (a2 < (0 : Int))) (
 J2 (true, ())) (
 J2 ((decide (a2 ≥ ((a1.len : Nat) : Int))), ())))) fun (s3 : Bool × Unit) =>
 sif s3.1 (
 K ((0 : Int), (0 : Int), ())) (
 drew <|
 slc a1.a a2 ((a1.len : Nat) : Int) ((a1.cap : Nat) : Int) a1.cap 1 fun x5 =>
 chk (methOk Tryz.prog x1 "copyist/codec.first") <|
 callX Tryz.prog (invoke (.fn (.method "copyist/codec.first") #[]) (#[x1] ++ #[(.slice x5.a x5.len x5.cap)])) (.tup [(.one (.int .i64)), (.one (.int .i64))]) fun (x6 : (Int × Int × Unit)) =>
 K (x6.1, x6.2.1, ()))
noncomputable def h53 : Hint := (hS (hR 2) (hS (hR 3) (hS (hJ (8386560, [(22, tB)]) (.region [] (.ops 3 (.split 13 (.skips 2 (.ops 2 (.skips 4 (hO 1)))) (.ops 4 (.split 17 (.skips 4 (hO 1)) (hO 5)))))) (hC (hS (hR 2) hL) hL)) (hS (.region [0, 1, 2, 3, 4, 5, 6, 7, 8, 9, 10, 11] (hO 12)) hL))))
theorem F53_calls {a0 : Int} {a1 : Sl} {a2 : Int} {K : (Int × Int × Unit) → World → Prop} {w : World} (h : F53 a0 a1 a2 K w) : callT Tryz.prog 53 #[(.int .i64 a0), (.slice a1.a a1.len a1.cap), (.int .i64 a2)] (.tup [(.one (.int .i64)), (.one (.int .i64))]) K w := tied tabOk Tryz.func53 h53 [(.int .i64 a0), (.slice a1.a a1.len a1.cap), (.int .i64 a2)] h
noncomputable def F54 (a0 : Int) (a1 : Sl) (a2 : Int) (K : (Sl × Int × Int × Int × Int × Bool × Bool × Unit) → World → Prop) : World → Prop :=
 newO (.cells #[(.slice none 0 0), (.int .i64 (0 : Int)), (.int .i64 (0 : Int)), (.int .i64 (0 : Int)), (.int .i64 (0 : Int)), (.bool false), (.bool false)] 93) fun b1 =>
 newO (.cells #[(.slice none 0 0), (.int .i64 (0 : Int)), (.int .i64 (0 : Int)), (.int .i64 (0 : Int)), (.int .i64 (0 : Int)), (.bool false), (.bool false)] 93) fun b2 =>
 aggSt (at0 b2) (.agg #[(.slice a1.a a1.len a1.cap), (.int .i64 a2), (.int .i64 (0 : Int)), (.int .i64 (0 : Int)), (.int .i64 (0 : Int)), (.bool false), (.bool false)]) 7 <|
 join (S := Unit) (fun J3 =>
 sloop (S := Int × Unit) (fun (s5 : Int × Unit) again6 =>
 sif (decide (s5.1 < ((a1.len : Nat) : Int))) (
 callT Tryz.prog 53 #[(.int .i64 a0), (.slice a1.a a1.len a1.cap), (.int .i64 s5.1)] (.tup [(.one (.int .i64)), (.one (.int .i64))]) fun (x7 : (Int × Int × Unit)) =>
 drew <|
 lds c91 (⟨b2, 2, none⟩ : Addr) fun (x8 : (Int × Int × Int × Bool × Bool × Unit)) =>
 callT Tryz.prog 94 #[(.int .i64 x7.1), (.int .i64 x7.2.1)] (.one (.agg c91)) fun (x9 : (Int × Int × Int × Bool × Bool × Unit)) =>
 keep (fun w => cellsAt w (⟨b2, 2, none⟩ : Addr) 0 (Cells.vals c91 x8)) <|
 callT Tryz.prog 93 #[(.agg (Cells.vals c91 x8).toArray), (.agg (Cells.vals c91 x9).toArray)] (.one (.agg c91)) fun (x10 : (Int × Int × Int × Bool × Bool × Unit)) =>
 aggSt (⟨b2, 2, none⟩ : Addr) (.agg (Cells.vals c91 x10).toArray) 5 <|
 again6 ((IntKind.wrap .i64 (s5.1 + x7.2.1)), ())) (
 J3 ())) ((0 : Int), ())) fun (s4 : Unit) =>
 lds c93 (at0 b2) fun (x11 : (Sl × Int × Int × Int × Int × Bool × Bool × Unit)) =>
 aggSt (at0 b1) (.agg (Cells.vals c93 x11).toArray) 7 <|
 lds c93 (at0 b1) fun (x12 : (Sl × Int × Int × Int × Int × Bool × Bool × Unit)) =>
 K x12
noncomputable def h54 : Hint := (hS (hR 1) (hS (hR 5) (hJ (34359723776, []) (hS (hR 1) (.block (.loop 34359723776 [(8, tI)] (hS (hS (hR 4) (hC hL hL)) (.block (hS (hR 9) (hS (.region [0, 1, 2, 3, 4, 5, 6, 7] (hO 8)) (hR 4)))))))) (hS (hR 2) hL))))
theorem F54_calls {a0 : Int} {a1 : Sl} {a2 : Int} {K : (Sl × Int × Int × Int × Int × Bool × Bool × Unit) → World → Prop} {w : World} (h : F54 a0 a1 a2 K w) : callT Tryz.prog 54 #[(.int .i64 a0), (.slice a1.a a1.len a1.cap), (.int .i64 a2)] (.one (.agg c93)) K w := tied tabOk Tryz.func54 h54 [(.int .i64 a0), (.slice a1.a a1.len a1.cap), (.int .i64 a2)] h
noncomputable def F55 (a0 : Sl) (K : (Option Addr × Unit) → World → Prop) : World → Prop :=
 newO (.cells #[(.pointer none)] 84) fun b1 =>
 callT Tryz.prog 95 #[(.slice a0.a a0.len a0.cap)] (.one (.one .ptr)) fun (x2 : Option Addr) =>
 aggSt (at0 b1) (.agg #[(.pointer x2)]) 1 <|
 lds c84 (at0 b1) fun (x3 : (Option Addr × Unit)) =>
 K x3
noncomputable def h55 : Hint := (hS (hR 1) (hS (hR 4) hL))
theorem F55_calls {a0 : Sl} {K : (Option Addr × Unit) → World → Prop} {w : World} (h : F55 a0 K w) : callT Tryz.prog 55 #[(.slice a0.a a0.len a0.cap)] (.one (.agg c84)) K w := tied tabOk Tryz.func55 h55 [(.slice a0.a a0.len a0.cap)] h
noncomputable def F57 (a0 : Option Addr) (a1 : Int) (a2 : Int) (a3 : Value) (K : Unit → World → Prop) : World → Prop :=
 newO (.cells #[(.pointer a0)] 27) fun b1 =>
 chk (oneAll [a3] = true) <|
 newO (.cells #[a3] 97) fun b2 =>
 ld (.ptr) (at0 b1) fun (x3 : Option Addr) =>
 callT Tryz.prog 37 #[(.pointer x3)] (.one (.one (.int .i64))) fun (x4 : Int) =>
 sif (decide ((if (0 : Int) > a1 then (0 : Int) else a1) ≥ (if x4 < a2 then x4 else a2))) (
 K ()) (
 ld (.ptr) (at0 b1) fun (x5 : Option Addr) =>
 callT Tryz.prog 99 #[(.pointer x5), (.int .i64 (if (0 : Int) > a1 then (0 : Int) else a1))] (.tup [(.one (.int .i64)), (.one (.int .i64))]) fun (x6 : (Int × Int × Unit)) =>
 newO (.cells #[(.int .i64 (0 : Int))] 3) fun b7 =>
 stC (at0 b7) (.int .i64 x6.2.1) <|
 newO (.cells #[(.int .i64 (0 : Int))] 3) fun b8 =>
 stC (at0 b8) (.int .i64 (IntKind.wrap .i64 ((if x4 < a2 then x4 else a2) - (if (0 : Int) > a1 then (0 : Int) else a1)))) <|
 ld (.ptr) (at0 b1) fun (x9 : Option Addr) =>
 nn x9 fun p10 =>
 lds c84 (p10.add 2) fun (x11 : (Option Addr × Unit)) =>
 callT Tryz.prog 100 #[(.agg (Cells.vals c84 x11).toArray), (.int .i64 x6.1)] (.one (.one .any)) fun (x12 : Value) =>
 rangeE (S := (Sl × Int × Int × Int × Int × Bool × Bool × Unit) × Unit) Tryz.prog (Slots.vals [(39, (.agg c93))]) x12 (fun l13 rc14 R15 (s16 : (Sl × Int × Int × Int × Int × Bool × Bool × Unit) × Unit) =>
 newO (.cells #[(.slice none 0 0), (.int .i64 (0 : Int)), (.int .i64 (0 : Int)), (.int .i64 (0 : Int)), (.int .i64 (0 : Int)), (.bool false), (.bool false)] 93) fun b18 =>
 aggSt (at0 b18) (.agg (Cells.vals c93 s16.1).toArray) 7 <|
 begR l13 rc14 <|
 sloop (S := Int × Unit) (fun (s19 : Int × Unit) again20 =>
 ld (.sl) (at0 b18) fun (x21 : Sl) =>
 sif (decide (s19.1 < ((x21.len : Nat) : Int))) (
 drew <|
 ld (.ptr) (at0 b1) fun (x22 : Option Addr) =>
 nn x22 fun p23 =>
 ld (.int .i64) p23 fun (x24 : Int) =>
 ld (.sl) (at0 b18) fun (x25 : Sl) =>
 callT Tryz.prog 53 #[(.int .i64 x24), (.slice x25.a x25.len x25.cap), (.int .i64 s19.1)] (.tup [(.one (.int .i64)), (.one (.int .i64))]) fun (x26 : (Int × Int × Unit)) =>
 join (S := Unit) (fun J27 =>
 ld (.int .i64) (at0 b7) fun (x29 : Int) =>
 sif (decide (x29 > (0 : Int))) (
 ld (.int .i64) (at0 b7) fun (x30 : Int) =>
 stC (at0 b7) (.int .i64 (IntKind.wrap .i64 (x30 - (1 : Int)))) <|
 J27 ()) (
 join (S := Unit) (fun J31 =>
 ld (.int .i64) (⟨b18, 1, none⟩ : Addr) fun (x33 : Int) =>
 sif (decide (x33 < (0 : Int))) (
 ld (.any) (at0 b2) fun (x34 : Value) =>
 callX Tryz.prog (do let d ← Deferred.ofValue x34 #[(.int .i64 x26.1), (.int .i64 (-1 : Int))]; invoke d.target d.args : Sem Next) (.tup []) fun (x35 : (Unit)) =>
 J31 ()) (
 ld (.any) (at0 b2) fun (x36 : Value) =>
 ld (.int .i64) (⟨b18, 1, none⟩ : Addr) fun (x37 : Int) =>
 callX Tryz.prog (do let d ← Deferred.ofValue x36 #[(.int .i64 x26.1), (.int .i64 (IntKind.wrap .i64 (x37 + s19.1)))]; invoke d.target d.args : Sem Next) (.tup []) fun (x38 : (Unit)) =>
 J31 ())) fun (s32 : Unit) =>
 ld (.int .i64) (at0 b8) fun (x39 : Int) =>
 stC (at0 b8) (.int .i64 (IntKind.wrap .i64 (x39 - (1 : Int)))) <|
 ld (.int .i64) (at0 b8) fun (x40 : Int) =>
 sif (x40 == (0 : Int)) (
 endR l13 rc14 (some .ret) R15) (
 J27 ()))) fun (s28 : Unit) =>
 again20 ((IntKind.wrap .i64 (s19.1 + x26.2.1)), ())) (
 endR l13 rc14 none R15)) ((0 : Int), ())) fun D17 => aft (
 endM D17 <|
 K ()) (fun i41 =>
 onE i41 0 (
 endM D17 <|
 K ()) (
 fun _ => False)) (
 endM D17 <|
 K ()))
noncomputable def h57 : Hint := (hS (hR 2) (hS (hR 8) (hS (hS (hR 3) (hC hL hL)) (hS (hR 9) (hS (hR 5) (hS (hR 6) (.block (.range [(39, (.agg c93))] (hR 2) (.block (hS (hR 1) (.block (.loop 1208925819613529663107072 [(12, tI)] (hS (hS (hR 5) (hC hL hL)) (.block (hS (.region [0, 1, 2, 3, 4, 5, 6, 7, 8, 9, 10, 11, 12] (hO 13)) (hJ (151115655394234608910336, []) (hS (hR 2) (hC (hR 3) (hJ (9443580044234683580416, []) (hS (hR 3) (hC (hR 3) (hR 7))) (hS (hR 3) (hS (hR 2) (hC hL hL)))))) (hR 4)))))))))))))))))
theorem F57_calls {a0 : Option Addr} {a1 : Int} {a2 : Int} {a3 : Value} {K : Unit → World → Prop} {w : World} (h : F57 a0 a1 a2 a3 K w) : callT Tryz.prog 57 #[(.pointer a0), (.int .i64 a1), (.int .i64 a2), a3] (.tup []) K w := tied tabOk Tryz.func57 h57 [(.pointer a0), (.int .i64 a1), (.int .i64 a2), a3] h
noncomputable def F58 (a0 : Int) (a1 : Int) (v0 : Addr) (K : Unit → World → Prop) : World → Prop :=
 ld (.sl) v0 fun (x1 : Sl) =>
 newO (.cells #[(.int .i64 a0)] 3) fun b2 =>
 rawT Tryz.prog (.one (.one .sl)) (Builtin.append_ #[37, 37] 37 #[(.slice x1.a x1.len x1.cap), (.slice (some (at0 b2)) 1 1)]) fun (x3 : Sl) =>
 stC v0 (.slice x3.a x3.len x3.cap) <|
 K ()
noncomputable def h58 : Hint := (hR 5)
theorem F58_calls {a0 : Int} {a1 : Int} {v0 : Addr} {K : Unit → World → Prop} {w : World} (h : F58 a0 a1 v0 K w) : callT Tryz.prog 58 #[(.int .i64 a0), (.int .i64 a1), (.pointer (some v0))] (.tup []) K w := tied tabOk Tryz.func58 h58 [(.int .i64 a0), (.int .i64 a1), (.pointer (some v0))] h
noncomputable def F63 (a0 : Option Addr) (a1 : Sl) (K : Int → World → Prop) : World → Prop :=
 sif (decide (((a1.len : Nat) : Int) > (70000 : Int))) (
 K (3 : Int)) (
 callT Tryz.prog 37 #[(.pointer a0)] (.one (.one (.int .i64))) fun (x1 : Int) =>
 join (S := Unit) (fun J2 =>
 sloop (S := Int × Int × Unit) (fun (s4 : Int × Int × Unit) again5 =>
 sif (decide (s4.2.1 < ((a1.len : Nat) : Int))) (
 ix a1.a a1.len s4.2.1 fun p6 =>
 lds c103 (p6.add (scaled (Int.toNat s4.2.1) 3)) fun (x7 : (Int × Int × Sl × Unit)) =>
 newO (.cells #[(.int .i64 (0 : Int)), (.int .i64 (0 : Int)), (.slice none 0 0)] 103) fun b8 =>
 aggSt (at0 b8) (.agg (Cells.vals c103 x7).toArray) 3 <|
 join (S := Bool × Unit) (fun J9 =>
 ld (.int .i64) (at0 b8) fun (x11 : Int) =>
 sif (decide (x11 < s4.1)) (
 J9 (true, ())) (
 ld (.int .i64) (⟨b8, 1, none⟩ : Addr) fun (x12 : Int) =>
 ld (.int .i64) (at0 b8) fun (x13 : Int) =>
 sif (decide (x12 < x13)) (
 J9 (true, ())) (
 ld (.int .i64) (⟨b8, 1, none⟩ : Addr) fun (x14 : Int) =>
 J9 ((decide (x14 > x1)), ())))) fun (s10 : Bool × Unit) =>
 sif s10.1 (
 K (2 : Int)) (
 ld (.int .i64) (⟨b8, 1, none⟩ : Addr) fun (x15 : Int) =>
 again5 (x15, (IntKind.wrap .i64 (s4.2.1 + (1 : Int))), ()))) (
 J2 ())) ((0 : Int), (0 : Int), ())) fun (s3 : Unit) =>
 callT Tryz.prog 106 #[(.pointer a0)] (.one (.one (.int .i64))) fun (x16 : Int) =>
 join (S := Int × Unit) (fun J17 =>
 sloop (S := Int × Int × Unit) (fun (s19 : Int × Int × Unit) again20 =>
 sif (decide (s19.2.1 < ((a1.len : Nat) : Int))) (
 join (S := Int × Unit) (fun J21 =>
 ix a1.a a1.len s19.2.1 fun p23 =>
 lds c103 (p23.add (scaled (Int.toNat s19.2.1) 3)) fun (x24 : (Int × Int × Sl × Unit)) =>
 newO (.cells #[(.int .i64 (0 : Int)), (.int .i64 (0 : Int)), (.slice none 0 0)] 103) fun b25 =>
 aggSt (at0 b25) (.agg (Cells.vals c103 x24).toArray) 3 <|
 ld (.sl) (⟨b25, 2, none⟩ : Addr) fun (x26 : Sl) =>
 sloop (S := Int × Int × Unit) (fun (s27 : Int × Int × Unit) again28 =>
 sif (decide (s27.2.1 < ((x26.len : Nat) : Int))) (
 ix x26.a x26.len s27.2.1 fun p29 =>
 ld (.int .i64) (p29.add (scaled (Int.toNat s27.2.1) 1)) fun (x30 : Int) =>
 nn a0 fun p31 =>
 ld (.int .i64) p31 fun (x32 : Int) =>
 callT Tryz.prog 107 #[(.int .i64 x32), (.int .i64 x30)] (.one (.one (.int .i64))) fun (x33 : Int) =>
 sif (x33 == (0 : Int)) (
 K (11 : Int)) (
 again28 ((IntKind.wrap .i64 (s27.1 + x33)), (IntKind.wrap .i64 (s27.2.1 + (1 : Int))), ()))) (
 J21 (s27.1, ()))) (s19.1, (0 : Int), ())) fun (s22 : Int × Unit) =>
 again20 (s22.1, (IntKind.wrap .i64 (s19.2.1 + (1 : Int))), ())) (
 J17 (s19.1, ()))) (x16, (0 : Int), ())) fun (s18 : Int × Unit) =>
 join (S := Int × Unit) (fun J34 =>
 sloop (S := Int × Int × Unit) (fun (s36 : Int × Int × Unit) again37 =>
 sif (decide (s36.2.1 < ((a1.len : Nat) : Int))) (
 join (S := Int × Unit) (fun J38 =>
 ix a1.a a1.len s36.2.1 fun p40 =>
 lds c103 (p40.add (scaled (Int.toNat s36.2.1) 3)) fun (x41 : (Int × Int × Sl × Unit)) =>
 newO (.cells #[(.int .i64 (0 : Int)), (.int .i64 (0 : Int)), (.slice none 0 0)] 103) fun b42 =>
 aggSt (at0 b42) (.agg (Cells.vals c103 x41).toArray) 3 <|
 ld (.int .i64) (⟨b42, 1, none⟩ : Addr) fun (x43 : Int) =>
 ld (.int .i64) (at0 b42) fun (x44 : Int) =>
 sif (decide (x43 > x44)) (
 drew <|
 ld (.int .i64) (⟨b42, 1, none⟩ : Addr) fun (x45 : Int) =>
 ld (.int .i64) (at0 b42) fun (x46 : Int) =>
 callT Tryz.prog 83 #[(.pointer a0), (.int .i64 x45)] (.one (.agg c91)) fun (x47 : (Int × Int × Int × Bool × Bool × Unit)) =>
 keep (fun w => w.cell? (at0 b42) = some (Cell.val (.int .i64) x46)) <|
 callT Tryz.prog 83 #[(.pointer a0), (.int .i64 x46)] (.one (.agg c91)) fun (x48 : (Int × Int × Int × Bool × Bool × Unit)) =>
 J38 ((IntKind.wrap .i64 (s36.1 - (IntKind.wrap .i64 (x47.2.1 - x48.2.1)))), ())) (
 J38 (s36.1, ()))) fun (s39 : Int × Unit) =>
 again37 (s39.1, (IntKind.wrap .i64 (s36.2.1 + (1 : Int))), ())) (
 J34 (s36.1, ()))) (s18.1, (0 : Int), ())) fun (s35 : Int × Unit) =>
 nn a0 fun p49 =>
 ld (.int .i64) (p49.add 1) fun (x50 : Int) =>
 sif (decide (s35.1 > x50)) (
 K (50 : Int)) (
 K (0 : Int)))
noncomputable def h63 : Hint := (hS (hR 1) (hS (hS (hR 3) (hC (hS (hR 1) hL) hL)) (hS (hR 4) (hJ (281474972516656, []) (hS (hR 3) (.block (.loop 281474959933744 [(5, tI), (24, tI)] (hS (hR 1) (hS (hC hL hL) (hS (.block (hS (hR 4) (hS (hJ (35184103653376, [(44, tB)]) (.region [] (.ops 5 (.split 32 (.skips 5 (.ops 2 (.skips 4 (hO 1)))) (.ops 7 (.split 39 (.skips 4 (hO 1)) (hO 5)))))) (hC (hS (hR 1) hL) hL)) (hR 3)))) (hR 2))))))) (hS (hR 3) (hJ (75557862600014416603664, [(9, tI)]) (hS (hR 3) (.block (.loop 75557859222314696075792 [(9, tI), (52, tI)] (hS (hR 1) (hS (hC hL hL) (hJ (37778913848558652254736, [(9, tI)]) (.block (hS (hR 4) (hS (hR 4) (.block (.loop 37778355402204858311184 [(9, tI), (59, tI)] (hS (hR 1) (hS (hC hL hL) (hS (.block (hS (hR 3) (hS (hR 7) (hS (hS (hR 2) (hC (hS (hR 1) hL) hL)) (hR 4))))) (hR 2))))))))) (hR 2))))))) (hJ (2535301124898595077079083057664, [(9, tI)]) (hS (hR 3) (.block (.loop 2535300898225003899336112800256 [(9, tI), (78, tI)] (hS (hR 1) (hS (hC hL hL) (hJ (1267649391302409786867528565248, [(9, tI)]) (.block (hS (hR 4) (hS (hR 5) (hC (.region [0, 1, 2, 3, 6, 7, 8, 4, 5, 9, 10, 11, 12, 13] (hO 14)) hL)))) (hR 2))))))) (hS (hS (hR 6) (hC (hS (hR 1) hL) hL)) (hS (hR 1) hL)))))))))
theorem F63_calls {a0 : Option Addr} {a1 : Sl} {K : Int → World → Prop} {w : World} (h : F63 a0 a1 K w) : callT Tryz.prog 63 #[(.pointer a0), (.slice a1.a a1.len a1.cap)] (.one (.one (.int .i64))) K w := tied tabOk Tryz.func63 h63 [(.pointer a0), (.slice a1.a a1.len a1.cap)] h
noncomputable def F64 (a0 : Option Addr) (a1 : Int) (a2 : Int) (a3 : Sl) (K : Unit → World → Prop) : World → Prop :=
 callT Tryz.prog 99 #[(.pointer a0), (.int .i64 a1)] (.tup [(.one (.int .i64)), (.one (.int .i64))]) fun (x1 : (Int × Int × Unit)) =>
 callT Tryz.prog 99 #[(.pointer a0), (.int .i64 a2)] (.tup [(.one (.int .i64)), (.one (.int .i64))]) fun (x2 : (Int × Int × Unit)) =>
 join (S := Sl × Unit) (fun J3 =>
 nn a0 fun p5 =>
 lds c84 (p5.add 2) fun (x6 : (Option Addr × Unit)) =>
 callT Tryz.prog 108 #[(.agg (Cells.vals c84 x6).toArray), (.int .i64 x1.1)] (.tup [(.agg c93), (.one .bool)]) fun (x7 : ((Sl × Int × Int × Int × Int × Bool × Bool × Unit) × Bool × Unit)) =>
 newO (.cells #[(.slice none 0 0), (.int .i64 (0 : Int)), (.int .i64 (0 : Int)), (.int .i64 (0 : Int)), (.int .i64 (0 : Int)), (.bool false), (.bool false)] 93) fun b8 =>
 aggSt (at0 b8) (.agg (Cells.vals c93 x7.1).toArray) 7 <|
 join (S := Bool × Unit) (fun J9 =>
 sif x7.2.1 (
 J9 ((decide (x1.2.1 > (0 : Int))), ())) (
 J9 (false, ()))) fun (s10 : Bool × Unit) =>
 sif s10.1 (
 join (S := Addr × Unit) (fun J11 =>
 drew <|
 lds c93 (at0 b8) fun (x13 : (Sl × Int × Int × Int × Int × Bool × Bool × Unit)) =>
 nn a0 fun p14 =>
 ld (.int .i64) p14 fun (x15 : Int) =>
 both (
 newO (.cells #[(.slice none 0 0), (.int .i64 (0 : Int)), (.int .i64 (0 : Int)), (.int .i64 (0 : Int)), (.int .i64 (0 : Int)), (.bool false), (.bool false)] 93) fun b16 =>
 keep (fun w => w.cell? p14 = some (Cell.val (.int .i64) x15)) <|
 keep (fun w => cellsAt w (at0 b8) 0 (Cells.vals c93 x13)) <|
 both (
 newO (.cells #[(.slice none 0 0), (.int .i64 (0 : Int)), (.int .i64 (0 : Int)), (.int .i64 (0 : Int)), (.int .i64 (0 : Int)), (.bool false), (.bool false)] 93) fun b17 =>
 keep (fun w => w.cell? p14 = some (Cell.val (.int .i64) x15)) <|
 keep (fun w => cellsAt w (at0 b8) 0 (Cells.vals c93 x13)) <|
 callT Tryz.prog 109 #[(.agg (Cells.vals c93 x13).toArray), (.int .i64 x15), (.int .i64 x1.2.1)] (.tup [(.agg c93), (.agg c93)]) fun (x18 : ((Sl × Int × Int × Int × Int × Bool × Bool × Unit) × (Sl × Int × Int × Int × Int × Bool × Bool × Unit) × Unit)) =>
 aggSt (at0 b16) (.agg (Cells.vals c93 x18.1).toArray) 7 <|
 aggSt (at0 b17) (.agg (Cells.vals c93 x18.2.1).toArray) 7 <|
 J11 ((at0 b16), ())) <|
 callT Tryz.prog 109 #[(.agg (Cells.vals c93 x13).toArray), (.int .i64 x15), (.int .i64 x1.2.1)] (.tup [(.agg c93), (.agg c93)]) fun (x19 : ((Sl × Int × Int × Int × Int × Bool × Bool × Unit) × (Sl × Int × Int × Int × Int × Bool × Bool × Unit) × Unit)) =>
 both (
 newO (.cells #[(.slice none 0 0), (.int .i64 (0 : Int)), (.int .i64 (0 : Int)), (.int .i64 (0 : Int)), (.int .i64 (0 : Int)), (.bool false), (.bool false)] 93) fun b20 =>
 keep (fun w => w.cell? p14 = some (Cell.val (.int .i64) x15)) <|
 keep (fun w => cellsAt w (at0 b8) 0 (Cells.vals c93 x13)) <|
 aggSt (at0 b16) (.agg (Cells.vals c93 x19.1).toArray) 7 <|
 aggSt (at0 b20) (.agg (Cells.vals c93 x19.2.1).toArray) 7 <|
 J11 ((at0 b16), ())) <|
 nothing) <|
 both (
 newO (.cells #[(.slice none 0 0), (.int .i64 (0 : Int)), (.int .i64 (0 : Int)), (.int .i64 (0 : Int)), (.int .i64 (0 : Int)), (.bool false), (.bool false)] 93) fun b21 =>
 keep (fun w => w.cell? p14 = some (Cell.val (.int .i64) x15)) <|
 keep (fun w => cellsAt w (at0 b8) 0 (Cells.vals c93 x13)) <|
 both (
 newO (.cells #[(.slice none 0 0), (.int .i64 (0 : Int)), (.int .i64 (0 : Int)), (.int .i64 (0 : Int)), (.int .i64 (0 : Int)), (.bool false), (.bool false)] 93) fun b22 =>
 keep (fun w => w.cell? p14 = some (Cell.val (.int .i64) x15)) <|
 keep (fun w => cellsAt w (at0 b8) 0 (Cells.vals c93 x13)) <|
 callT Tryz.prog 109 #[(.agg (Cells.vals c93 x13).toArray), (.int .i64 x15), (.int .i64 x1.2.1)] (.tup [(.agg c93), (.agg c93)]) fun (x23 : ((Sl × Int × Int × Int × Int × Bool × Bool × Unit) × (Sl × Int × Int × Int × Int × Bool × Bool × Unit) × Unit)) =>
 aggSt (at0 b22) (.agg (Cells.vals c93 x23.1).toArray) 7 <|
 aggSt (at0 b21) (.agg (Cells.vals c93 x23.2.1).toArray) 7 <|
 J11 ((at0 b22), ())) <|
 callT Tryz.prog 109 #[(.agg (Cells.vals c93 x13).toArray), (.int .i64 x15), (.int .i64 x1.2.1)] (.tup [(.agg c93), (.agg c93)]) fun (x24 : ((Sl × Int × Int × Int × Int × Bool × Bool × Unit) × (Sl × Int × Int × Int × Int × Bool × Bool × Unit) × Unit)) =>
 both (
 newO (.cells #[(.slice none 0 0), (.int .i64 (0 : Int)), (.int .i64 (0 : Int)), (.int .i64 (0 : Int)), (.int .i64 (0 : Int)), (.bool false), (.bool false)] 93) fun b25 =>
 keep (fun w => w.cell? p14 = some (Cell.val (.int .i64) x15)) <|
 keep (fun w => cellsAt w (at0 b8) 0 (Cells.vals c93 x13)) <|
 aggSt (at0 b25) (.agg (Cells.vals c93 x24.1).toArray) 7 <|
 aggSt (at0 b21) (.agg (Cells.vals c93 x24.2.1).toArray) 7 <|
 J11 ((at0 b25), ())) <|
 nothing) <|
 callT Tryz.prog 109 #[(.agg (Cells.vals c93 x13).toArray), (.int .i64 x15), (.int .i64 x1.2.1)] (.tup [(.agg c93), (.agg c93)]) fun (x26 : ((Sl × Int × Int × Int × Int × Bool × Bool × Unit) × (Sl × Int × Int × Int × Int × Bool × Bool × Unit) × Unit)) =>
 both (
 newO (.cells #[(.slice none 0 0), (.int .i64 (0 : Int)), (.int .i64 (0 : Int)), (.int .i64 (0 : Int)), (.int .i64 (0 : Int)), (.bool false), (.bool false)] 93) fun b27 =>
 keep (fun w => w.cell? p14 = some (Cell.val (.int .i64) x15)) <|
 keep (fun w => cellsAt w (at0 b8) 0 (Cells.vals c93 x13)) <|
 both (
 newO (.cells #[(.slice none 0 0), (.int .i64 (0 : Int)), (.int .i64 (0 : Int)), (.int .i64 (0 : Int)), (.int .i64 (0 : Int)), (.bool false), (.bool false)] 93) fun b28 =>
 keep (fun w => w.cell? p14 = some (Cell.val (.int .i64) x15)) <|
 keep (fun w => cellsAt w (at0 b8) 0 (Cells.vals c93 x13)) <|
 aggSt (at0 b27) (.agg (Cells.vals c93 x26.1).toArray) 7 <|
 aggSt (at0 b28) (.agg (Cells.vals c93 x26.2.1).toArray) 7 <|
 J11 ((at0 b27), ())) <|
 nothing) <|
 both (
 newO (.cells #[(.slice none 0 0), (.int .i64 (0 : Int)), (.int .i64 (0 : Int)), (.int .i64 (0 : Int)), (.int .i64 (0 : Int)), (.bool false), (.bool false)] 93) fun b29 =>
 keep (fun w => w.cell? p14 = some (Cell.val (.int .i64) x15)) <|
 keep (fun w => cellsAt w (at0 b8) 0 (Cells.vals c93 x13)) <|
 both (
 newO (.cells #[(.slice none 0 0), (.int .i64 (0 : Int)), (.int .i64 (0 : Int)), (.int .i64 (0 : Int)), (.int .i64 (0 : Int)), (.bool false), (.bool false)] 93) fun b30 =>
 keep (fun w => w.cell? p14 = some (Cell.val (.int .i64) x15)) <|
 keep (fun w => cellsAt w (at0 b8) 0 (Cells.vals c93 x13)) <|
 aggSt (at0 b30) (.agg (Cells.vals c93 x26.1).toArray) 7 <|
 aggSt (at0 b29) (.agg (Cells.vals c93 x26.2.1).toArray) 7 <|
 J11 ((at0 b30), ())) <|
 nothing) <|
 nothing) fun (s12 : Addr × Unit) =>
 lds c93 s12.1 fun (x31 : (Sl × Int × Int × Int × Int × Bool × Bool × Unit)) =>
 newO (.cells #[(.slice x31.1.a x31.1.len x31.1.cap), (.int .i64 x31.2.1), (.int .i64 x31.2.2.1), (.int .i64 x31.2.2.2.1), (.int .i64 x31.2.2.2.2.1), (.bool x31.2.2.2.2.2.1), (.bool x31.2.2.2.2.2.2.1)] 93) fun b32 =>
 rawT Tryz.prog (.one (.one .sl)) (Builtin.append_ #[87, 87] 87 #[(.slice none 0 0), (.slice (some (at0 b32)) 1 1)]) fun (x33 : Sl) =>
 J3 (x33, ())) (
 J3 (⟨none, 0, 0⟩, ()))) fun (s4 : Sl × Unit) =>
 callT Tryz.prog 110 #[(.pointer a0), (.slice a3.a a3.len a3.cap)] (.one (.one .sl)) fun (x34 : Sl) =>
 rawT Tryz.prog (.one (.one .sl)) (Builtin.append_ #[87, 87] 87 #[(.slice s4.1.a s4.1.len s4.1.cap), (.slice x34.a x34.len x34.cap)]) fun (x35 : Sl) =>
 join (S := Sl × Unit) (fun J36 =>
 nn a0 fun p38 =>
 lds c84 (p38.add 2) fun (x39 : (Option Addr × Unit)) =>
 callT Tryz.prog 108 #[(.agg (Cells.vals c84 x39).toArray), (.int .i64 x2.1)] (.tup [(.agg c93), (.one .bool)]) fun (x40 : ((Sl × Int × Int × Int × Int × Bool × Bool × Unit) × Bool × Unit)) =>
 newO (.cells #[(.slice none 0 0), (.int .i64 (0 : Int)), (.int .i64 (0 : Int)), (.int .i64 (0 : Int)), (.int .i64 (0 : Int)), (.bool false), (.bool false)] 93) fun b41 =>
 aggSt (at0 b41) (.agg (Cells.vals c93 x40.1).toArray) 7 <|
 sif x40.2.1 (
 join (S := Addr × Unit) (fun J42 =>
 drew <|
 lds c93 (at0 b41) fun (x44 : (Sl × Int × Int × Int × Int × Bool × Bool × Unit)) =>
 nn a0 fun p45 =>
 ld (.int .i64) p45 fun (x46 : Int) =>
 both (
 newO (.cells #[(.slice none 0 0), (.int .i64 (0 : Int)), (.int .i64 (0 : Int)), (.int .i64 (0 : Int)), (.int .i64 (0 : Int)), (.bool false), (.bool false)] 93) fun b47 =>
 keep (fun w => w.cell? p45 = some (Cell.val (.int .i64) x46)) <|
 keep (fun w => cellsAt w (at0 b41) 0 (Cells.vals c93 x44)) <|
 both (
 newO (.cells #[(.slice none 0 0), (.int .i64 (0 : Int)), (.int .i64 (0 : Int)), (.int .i64 (0 : Int)), (.int .i64 (0 : Int)), (.bool false), (.bool false)] 93) fun b48 =>
 keep (fun w => w.cell? p45 = some (Cell.val (.int .i64) x46)) <|
 keep (fun w => cellsAt w (at0 b41) 0 (Cells.vals c93 x44)) <|
 callT Tryz.prog 109 #[(.agg (Cells.vals c93 x44).toArray), (.int .i64 x46), (.int .i64 x2.2.1)] (.tup [(.agg c93), (.agg c93)]) fun (x49 : ((Sl × Int × Int × Int × Int × Bool × Bool × Unit) × (Sl × Int × Int × Int × Int × Bool × Bool × Unit) × Unit)) =>
 aggSt (at0 b47) (.agg (Cells.vals c93 x49.1).toArray) 7 <|
 aggSt (at0 b48) (.agg (Cells.vals c93 x49.2.1).toArray) 7 <|
 J42 ((at0 b48), ())) <|
 callT Tryz.prog 109 #[(.agg (Cells.vals c93 x44).toArray), (.int .i64 x46), (.int .i64 x2.2.1)] (.tup [(.agg c93), (.agg c93)]) fun (x50 : ((Sl × Int × Int × Int × Int × Bool × Bool × Unit) × (Sl × Int × Int × Int × Int × Bool × Bool × Unit) × Unit)) =>
 both (
 newO (.cells #[(.slice none 0 0), (.int .i64 (0 : Int)), (.int .i64 (0 : Int)), (.int .i64 (0 : Int)), (.int .i64 (0 : Int)), (.bool false), (.bool false)] 93) fun b51 =>
 keep (fun w => w.cell? p45 = some (Cell.val (.int .i64) x46)) <|
 keep (fun w => cellsAt w (at0 b41) 0 (Cells.vals c93 x44)) <|
 aggSt (at0 b47) (.agg (Cells.vals c93 x50.1).toArray) 7 <|
 aggSt (at0 b51) (.agg (Cells.vals c93 x50.2.1).toArray) 7 <|
 J42 ((at0 b51), ())) <|
 nothing) <|
 both (
 newO (.cells #[(.slice none 0 0), (.int .i64 (0 : Int)), (.int .i64 (0 : Int)), (.int .i64 (0 : Int)), (.int .i64 (0 : Int)), (.bool false), (.bool false)] 93) fun b52 =>
 keep (fun w => w.cell? p45 = some (Cell.val (.int .i64) x46)) <|
 keep (fun w => cellsAt w (at0 b41) 0 (Cells.vals c93 x44)) <|
 both (
 newO (.cells #[(.slice none 0 0), (.int .i64 (0 : Int)), (.int .i64 (0 : Int)), (.int .i64 (0 : Int)), (.int .i64 (0 : Int)), (.bool false), (.bool false)] 93) fun b53 =>
 keep (fun w => w.cell? p45 = some (Cell.val (.int .i64) x46)) <|
 keep (fun w => cellsAt w (at0 b41) 0 (Cells.vals c93 x44)) <|
 callT Tryz.prog 109 #[(.agg (Cells.vals c93 x44).toArray), (.int .i64 x46), (.int .i64 x2.2.1)] (.tup [(.agg c93), (.agg c93)]) fun (x54 : ((Sl × Int × Int × Int × Int × Bool × Bool × Unit) × (Sl × Int × Int × Int × Int × Bool × Bool × Unit) × Unit)) =>
 aggSt (at0 b53) (.agg (Cells.vals c93 x54.1).toArray) 7 <|
 aggSt (at0 b52) (.agg (Cells.vals c93 x54.2.1).toArray) 7 <|
 J42 ((at0 b52), ())) <|
 callT Tryz.prog 109 #[(.agg (Cells.vals c93 x44).toArray), (.int .i64 x46), (.int .i64 x2.2.1)] (.tup [(.agg c93), (.agg c93)]) fun (x55 : ((Sl × Int × Int × Int × Int × Bool × Bool × Unit) × (Sl × Int × Int × Int × Int × Bool × Bool × Unit) × Unit)) =>
 both (
 newO (.cells #[(.slice none 0 0), (.int .i64 (0 : Int)), (.int .i64 (0 : Int)), (.int .i64 (0 : Int)), (.int .i64 (0 : Int)), (.bool false), (.bool false)] 93) fun b56 =>
 keep (fun w => w.cell? p45 = some (Cell.val (.int .i64) x46)) <|
 keep (fun w => cellsAt w (at0 b41) 0 (Cells.vals c93 x44)) <|
 aggSt (at0 b56) (.agg (Cells.vals c93 x55.1).toArray) 7 <|
 aggSt (at0 b52) (.agg (Cells.vals c93 x55.2.1).toArray) 7 <|
 J42 ((at0 b52), ())) <|
 nothing) <|
 callT Tryz.prog 109 #[(.agg (Cells.vals c93 x44).toArray), (.int .i64 x46), (.int .i64 x2.2.1)] (.tup [(.agg c93), (.agg c93)]) fun (x57 : ((Sl × Int × Int × Int × Int × Bool × Bool × Unit) × (Sl × Int × Int × Int × Int × Bool × Bool × Unit) × Unit)) =>
 both (
 newO (.cells #[(.slice none 0 0), (.int .i64 (0 : Int)), (.int .i64 (0 : Int)), (.int .i64 (0 : Int)), (.int .i64 (0 : Int)), (.bool false), (.bool false)] 93) fun b58 =>
 keep (fun w => w.cell? p45 = some (Cell.val (.int .i64) x46)) <|
 keep (fun w => cellsAt w (at0 b41) 0 (Cells.vals c93 x44)) <|
 both (
 newO (.cells #[(.slice none 0 0), (.int .i64 (0 : Int)), (.int .i64 (0 : Int)), (.int .i64 (0 : Int)), (.int .i64 (0 : Int)), (.bool false), (.bool false)] 93) fun b59 =>
 keep (fun w => w.cell? p45 = some (Cell.val (.int .i64) x46)) <|
 keep (fun w => cellsAt w (at0 b41) 0 (Cells.vals c93 x44)) <|
 aggSt (at0 b58) (.agg (Cells.vals c93 x57.1).toArray) 7 <|
 aggSt (at0 b59) (.agg (Cells.vals c93 x57.2.1).toArray) 7 <|
 J42 ((at0 b59), ())) <|
 nothing) <|
 both (
 newO (.cells #[(.slice none 0 0), (.int .i64 (0 : Int)), (.int .i64 (0 : Int)), (.int .i64 (0 : Int)), (.int .i64 (0 : Int)), (.bool false), (.bool false)] 93) fun b60 =>
 keep (fun w => w.cell? p45 = some (Cell.val (.int .i64) x46)) <|
 keep (fun w => cellsAt w (at0 b41) 0 (Cells.vals c93 x44)) <|
 both (
 newO (.cells #[(.slice none 0 0), (.int .i64 (0 : Int)), (.int .i64 (0 : Int)), (.int .i64 (0 : Int)), (.int .i64 (0 : Int)), (.bool false), (.bool false)] 93) fun b61 =>
 keep (fun w => w.cell? p45 = some (Cell.val (.int .i64) x46)) <|
 keep (fun w => cellsAt w (at0 b41) 0 (Cells.vals c93 x44)) <|
 aggSt (at0 b61) (.agg (Cells.vals c93 x57.1).toArray) 7 <|
 aggSt (at0 b60) (.agg (Cells.vals c93 x57.2.1).toArray) 7 <|
 J42 ((at0 b60), ())) <|
 nothing) <|
 nothing) fun (s43 : Addr × Unit) =>
 ld (.int .i64) (s43.1.add 2) fun (x62 : Int) =>
 sif (decide (x62 > (0 : Int))) (
 lds c93 s43.1 fun (x63 : (Sl × Int × Int × Int × Int × Bool × Bool × Unit)) =>
 newO (.cells #[(.slice x63.1.a x63.1.len x63.1.cap), (.int .i64 x63.2.1), (.int .i64 x63.2.2.1), (.int .i64 x63.2.2.2.1), (.int .i64 x63.2.2.2.2.1), (.bool x63.2.2.2.2.2.1), (.bool x63.2.2.2.2.2.2.1)] 93) fun b64 =>
 rawT Tryz.prog (.one (.one .sl)) (Builtin.append_ #[87, 87] 87 #[(.slice x35.a x35.len x35.cap), (.slice (some (at0 b64)) 1 1)]) fun (x65 : Sl) =>
 J36 (x65, ())) (
 J36 (x35, ()))) (
 J36 (x35, ()))) fun (s37 : Sl × Unit) =>
 drew <|
 nn a0 fun p66 =>
 lds c84 (p66.add 2) fun (x67 : (Option Addr × Unit)) =>
 nn a0 fun p68 =>
 lds c84 (p68.add 2) fun (x69 : (Option Addr × Unit)) =>
 callT Tryz.prog 112 #[(.agg (Cells.vals c84 x69).toArray)] (.one (.one (.int .i64))) fun (x70 : Int) =>
 keep (fun w => cellsAt w (p66.add 2) 0 (Cells.vals c84 x67)) <|
 callT Tryz.prog 111 #[(.agg (Cells.vals c84 x67).toArray), (.int .i64 x1.1), (.int .i64 (if x70 < (IntKind.wrap .i64 (x2.1 + (1 : Int))) then x70 else (IntKind.wrap .i64 (x2.1 + (1 : Int))))), (.slice s37.1.a s37.1.len s37.1.cap)] (.tup [(.agg c84), (.one (.int .i64))]) fun (x71 : ((Option Addr × Unit) × Int × Unit)) =>
 nn a0 fun p72 =>
 aggSt (p72.add 2) (.agg (Cells.vals c84 x71.1).toArray) 1 <|
 K ()
noncomputable def h64 : Hint := (hS (hR 8) (hS (hR 8) (hS (hR 1) (hJ (2305843000623886336, [(12, tS)]) (hS (hR 12) (hJ (136339441844224, [(46, tB)]) (.region [] (.ops 2 (.split 43 (hO 3) (.skips 2 (hO 1))))) (hC (hJ (143974450587598848, [(15, (.one .addr))]) (.region [0, 1, 2, 3, 4, 5, 6, 7, 8, 9, 12, 13] (.float [10, 11] (.ops 6 (.alt none (.alt none (.plain (hO 6)) (.ops 4 (.alt none (.plain (hO 2)) .stop))) (.alt none (.alt none (.plain (hO 6)) (.ops 4 (.alt none (.plain (hO 2)) .stop))) (.ops 4 (.alt none (.alt none (.plain (hO 2)) .stop) (.alt none (.alt none (.plain (hO 2)) .stop) .stop)))))))) (hR 5)) hL))) (hS (hR 6) (hJ (19807040554779108103549751296, [(12, tS)]) (hS (hR 12) (hS (hR 1) (hC (hJ (77295694591610352859348992, [(20, (.one .addr))]) (.region [0, 1, 2, 3, 4, 5, 6, 7, 8, 9, 12, 13] (.float [10, 11] (.ops 6 (.alt none (.alt none (.plain (hO 6)) (.ops 4 (.alt none (.plain (hO 2)) .stop))) (.alt none (.alt none (.plain (hO 6)) (.ops 4 (.alt none (.plain (hO 2)) .stop))) (.ops 4 (.alt none (.alt none (.plain (hO 2)) .stop) (.alt none (.alt none (.plain (hO 2)) .stop) .stop)))))))) (hS (hR 4) (hC (hR 5) hL))) hL))) (.region [0, 1, 2, 3, 4, 5, 6, 7, 8, 9, 10, 11, 14, 12, 13, 15, 16, 17, 18, 19, 20, 21] (hO 22))))))))
theorem F64_calls {a0 : Option Addr} {a1 : Int} {a2 : Int} {a3 : Sl} {K : Unit → World → Prop} {w : World} (h : F64 a0 a1 a2 a3 K w) : callT Tryz.prog 64 #[(.pointer a0), (.int .i64 a1), (.int .i64 a2), (.slice a3.a a3.len a3.cap)] (.tup []) K w := tied tabOk Tryz.func64 h64 [(.pointer a0), (.int .i64 a1), (.int .i64 a2), (.slice a3.a a3.len a3.cap)] h
noncomputable def F65 (a0 : (Option Addr × Unit)) (K : (Int × Int × Int × Bool × Bool × Unit) → World → Prop) : World → Prop :=
 newO (.cells #[(.pointer a0.1)] 84) fun b1 =>
 newO (.cells #[(.int .i64 (0 : Int)), (.int .i64 (0 : Int)), (.int .i64 (0 : Int)), (.bool false), (.bool false)] 91) fun b2 =>
 ld (.ptr) (at0 b1) fun (x3 : Option Addr) =>
 sif (Option.isNone x3) (
 newO (.cells #[(.int .i64 (0 : Int)), (.int .i64 (0 : Int)), (.int .i64 (0 : Int)), (.bool false), (.bool false)] 91) fun b4 =>
 lds c91 (at0 b4) fun (x5 : (Int × Int × Int × Bool × Bool × Unit)) =>
 aggSt (at0 b2) (.agg (Cells.vals c91 x5).toArray) 5 <|
 lds c91 (at0 b2) fun (x6 : (Int × Int × Int × Bool × Bool × Unit)) =>
 K x6) (
 ld (.ptr) (at0 b1) fun (x7 : Option Addr) =>
 nn x7 fun p8 =>
 lds c91 (p8.add 11) fun (x9 : (Int × Int × Int × Bool × Bool × Unit)) =>
 aggSt (at0 b2) (.agg (Cells.vals c91 x9).toArray) 5 <|
 lds c91 (at0 b2) fun (x10 : (Int × Int × Int × Bool × Bool × Unit)) =>
 K x10)
noncomputable def h65 : Hint := (hS (hR 2) (hS (hS (hR 3) (hC (hS (hR 1) (hS (hR 2) hL)) hL)) (hS (hR 6) hL)))
theorem F65_calls {a0 : (Option Addr × Unit)} {K : (Int × Int × Int × Bool × Bool × Unit) → World → Prop} {w : World} (h : F65 a0 K w) : callT Tryz.prog 65 #[(.agg (Cells.vals c84 a0).toArray)] (.one (.agg c91)) K w := tied tabOk Tryz.func65 h65 [(.agg (Cells.vals c84 a0).toArray)] h
noncomputable def F66 (a0 : Option Addr) (a1 : Int) (K : Int → World → Prop) : World → Prop :=
 sif (a1 == (0 : Int)) (
 K (0 : Int)) (
 join (S := Bool × Unit) (fun J1 =>
 sif (decide (a1 < (0 : Int))) (
 J1 (true, ())) (
 nn a0 fun p3 =>
 lds c84 (p3.add 2) fun (x4 : (Option Addr × Unit)) =>
 callT Tryz.prog 65 #[(.agg (Cells.vals c84 x4).toArray)] (.one (.agg c91)) fun (x5 : (Int × Int × Int × Bool × Bool × Unit)) =>
 J1 ((decide (a1 > x5.2.2.1)), ()))) fun (s2 : Bool × Unit) =>
 sif s2.1 (
 K (-1 : Int)) (
 nn a0 fun p6 =>
 lds c84 (p6.add 2) fun (x7 : (Option Addr × Unit)) =>
 callT Tryz.prog 113 #[(.agg (Cells.vals c84 x7).toArray), (.int .i64 (1 : Int)), (.int .i64 a1)] (.one (.one (.int .i64))) fun (x8 : Int) =>
 nn a0 fun p9 =>
 lds c84 (p9.add 2) fun (x10 : (Option Addr × Unit)) =>
 callT Tryz.prog 114 #[(.agg (Cells.vals c84 x10).toArray), (.int .i64 (IntKind.wrap .i64 (x8 - (1 : Int))))] (.one (.agg c91)) fun (x11 : (Int × Int × Int × Bool × Bool × Unit)) =>
 newO (.cells #[(.int .i64 (0 : Int)), (.int .i64 (0 : Int)), (.int .i64 (0 : Int)), (.bool false), (.bool false)] 91) fun b12 =>
 aggSt (at0 b12) (.agg (Cells.vals c91 x11).toArray) 5 <|
 nn a0 fun p13 =>
 lds c84 (p13.add 2) fun (x14 : (Option Addr × Unit)) =>
 callT Tryz.prog 108 #[(.agg (Cells.vals c84 x14).toArray), (.int .i64 (IntKind.wrap .i64 (x8 - (1 : Int))))] (.tup [(.agg c93), (.one .bool)]) fun (x15 : ((Sl × Int × Int × Int × Int × Bool × Bool × Unit) × Bool × Unit)) =>
 newO (.cells #[(.slice none 0 0), (.int .i64 (0 : Int)), (.int .i64 (0 : Int)), (.int .i64 (0 : Int)), (.int .i64 (0 : Int)), (.bool false), (.bool false)] 93) fun b16 =>
 aggSt (at0 b16) (.agg (Cells.vals c93 x15.1).toArray) 7 <|
 join (S := Unit) (fun J17 =>
 sloop (S := Int × Unit) (fun (s19 : Int × Unit) again20 =>
 join (S := Bool × Unit) (fun J21 =>
 ld (.sl) (at0 b16) fun (x23 : Sl) =>
 sif (decide (s19.1 < ((x23.len : Nat) : Int))) (
 ld (.int .i64) (⟨b12, 2, none⟩ : Addr) fun (x24 : Int) =>
 J21 ((decide (x24 < a1)), ())) (
 J21 (false, ()))) fun (s22 : Bool × Unit) =>
 sif s22.1 (
 drew <|
 nn a0 fun p25 =>
 ld (.int .i64) p25 fun (x26 : Int) =>
 ld (.sl) (at0 b16) fun (x27 : Sl) =>
 callT Tryz.prog 53 #[(.int .i64 x26), (.slice x27.a x27.len x27.cap), (.int .i64 s19.1)] (.tup [(.one (.int .i64)), (.one (.int .i64))]) fun (x28 : (Int × Int × Unit)) =>
 drew <|
 lds c91 (at0 b12) fun (x29 : (Int × Int × Int × Bool × Bool × Unit)) =>
 callT Tryz.prog 94 #[(.int .i64 x28.1), (.int .i64 x28.2.1)] (.one (.agg c91)) fun (x30 : (Int × Int × Int × Bool × Bool × Unit)) =>
 keep (fun w => cellsAt w (at0 b12) 0 (Cells.vals c91 x29)) <|
 callT Tryz.prog 93 #[(.agg (Cells.vals c91 x29).toArray), (.agg (Cells.vals c91 x30).toArray)] (.one (.agg c91)) fun (x31 : (Int × Int × Int × Bool × Bool × Unit)) =>
 aggSt (at0 b12) (.agg (Cells.vals c91 x31).toArray) 5 <|
 again20 ((IntKind.wrap .i64 (s19.1 + x28.2.1)), ())) (
 J17 ())) ((0 : Int), ())) fun (s18 : Unit) =>
 ld (.int .i64) (at0 b12) fun (x32 : Int) =>
 ld (.int .i64) (at0 b12) fun (x33 : Int) =>
 callT Tryz.prog 25 #[(.pointer a0), (.int .i64 x32), (.int .i64 (IntKind.wrap .i64 (x33 + (1 : Int))))] (.one (.one .sl)) fun (x34 : Sl) =>
 join (S := Bool × Unit) (fun J35 =>
 ld (.bool) (⟨b12, 4, none⟩ : Addr) fun (x37 : Bool) =>
 sif x37 (
 sif (((x34.len : Nat) : Int) == (1 : Int)) (
 ix x34.a x34.len (0 : Int) fun p38 =>
 ld (.int .i64) (p38.add (scaled (Int.toNat (0 : Int)) 1)) fun (x39 : Int) =>
 J35 ((x39 == (10 : Int)), ())) (
 J35 (false, ()))) (
 J35 (false, ()))) fun (s36 : Bool × Unit) =>
 sif s36.1 (
 ld (.int .i64) (at0 b12) fun (x40 : Int) =>
 K (IntKind.wrap .i64 (x40 + (1 : Int)))) (
 ld (.int .i64) (at0 b12) fun (x41 : Int) =>
 K x41)))
noncomputable def h66 : Hint := (hS (hR 1) (hS (.block (hS (hR 3) (hC (hS (hR 1) hL) (hJ (536805376, [(16, tB)]) (.region [] (.ops 3 (.split 19 (.skips 8 (hO 2)) (hO 10)))) (hC (hS (hR 1) hL) hL))))) (hS (hR 8) (hS (hR 8) (hS (hR 12) (hJ (2417851636977458535730688, []) (hS (hR 1) (.block (.loop 2417851636977458535730688 [(9, tI)] (hS (hJ (4609434218613702656, [(61, tB)]) (.region [] (.ops 6 (.split 56 (hO 5) (.skips 4 (hO 1))))) (hC hL hL)) (.block (hS (.region [0, 1, 2, 3, 4, 5, 6, 7, 8, 9, 10, 11, 12] (hO 13)) (hS (.region [0, 1, 2, 3, 4, 5] (hO 6)) (hR 4)))))))) (hS (hS (hR 8) (hJ (2534991715446637457924681629696, [(100, tB)]) (.region [] (.ops 3 (.split 90 (.ops 5 (.split 95 (hO 5) (.skips 4 (hO 1)))) (.skips 3 (.ops 2 (.skips 4 (hO 1))))))) (hC (hS (hR 4) hL) hL))) (hS (hR 3) hL))))))))
theorem F66_calls {a0 : Option Addr} {a1 : Int} {K : Int → World → Prop} {w : World} (h : F66 a0 a1 K w) : callT Tryz.prog 66 #[(.pointer a0), (.int .i64 a1)] (.one (.one (.int .i64))) K w := tied tabOk Tryz.func66 h66 [(.pointer a0), (.int .i64 a1)] h
noncomputable def F83 (a0 : Option Addr) (a1 : Int) (K : (Int × Int × Int × Bool × Bool × Unit) → World → Prop) : World → Prop :=
 newO (.cells #[(.int .i64 (0 : Int)), (.int .i64 (0 : Int)), (.int .i64 (0 : Int)), (.bool false), (.bool false)] 91) fun b1 =>
 callT Tryz.prog 99 #[(.pointer a0), (.int .i64 a1)] (.tup [(.one (.int .i64)), (.one (.int .i64))]) fun (x2 : (Int × Int × Unit)) =>
 nn a0 fun p3 =>
 lds c84 (p3.add 2) fun (x4 : (Option Addr × Unit)) =>
 callT Tryz.prog 114 #[(.agg (Cells.vals c84 x4).toArray), (.int .i64 x2.1)] (.one (.agg c91)) fun (x5 : (Int × Int × Int × Bool × Bool × Unit)) =>
 newO (.cells #[(.int .i64 (0 : Int)), (.int .i64 (0 : Int)), (.int .i64 (0 : Int)), (.bool false), (.bool false)] 91) fun b6 =>
 aggSt (at0 b6) (.agg (Cells.vals c91 x5).toArray) 5 <|
 join (S := Unit) (fun J7 =>
 nn a0 fun p9 =>
 lds c84 (p9.add 2) fun (x10 : (Option Addr × Unit)) =>
 callT Tryz.prog 108 #[(.agg (Cells.vals c84 x10).toArray), (.int .i64 x2.1)] (.tup [(.agg c93), (.one .bool)]) fun (x11 : ((Sl × Int × Int × Int × Int × Bool × Bool × Unit) × Bool × Unit)) =>
 newO (.cells #[(.slice none 0 0), (.int .i64 (0 : Int)), (.int .i64 (0 : Int)), (.int .i64 (0 : Int)), (.int .i64 (0 : Int)), (.bool false), (.bool false)] 93) fun b12 =>
 aggSt (at0 b12) (.agg (Cells.vals c93 x11.1).toArray) 7 <|
 sif x11.2.1 (
 join (S := Addr × Unit) (fun J13 =>
 drew <|
 lds c93 (at0 b12) fun (x15 : (Sl × Int × Int × Int × Int × Bool × Bool × Unit)) =>
 nn a0 fun p16 =>
 ld (.int .i64) p16 fun (x17 : Int) =>
 both (
 newO (.cells #[(.slice none 0 0), (.int .i64 (0 : Int)), (.int .i64 (0 : Int)), (.int .i64 (0 : Int)), (.int .i64 (0 : Int)), (.bool false), (.bool false)] 93) fun b18 =>
 keep (fun w => w.cell? p16 = some (Cell.val (.int .i64) x17)) <|
 keep (fun w => cellsAt w (at0 b12) 0 (Cells.vals c93 x15)) <|
 both (
 newO (.cells #[(.slice none 0 0), (.int .i64 (0 : Int)), (.int .i64 (0 : Int)), (.int .i64 (0 : Int)), (.int .i64 (0 : Int)), (.bool false), (.bool false)] 93) fun b19 =>
 keep (fun w => w.cell? p16 = some (Cell.val (.int .i64) x17)) <|
 keep (fun w => cellsAt w (at0 b12) 0 (Cells.vals c93 x15)) <|
 callT Tryz.prog 109 #[(.agg (Cells.vals c93 x15).toArray), (.int .i64 x17), (.int .i64 x2.2.1)] (.tup [(.agg c93), (.agg c93)]) fun (x20 : ((Sl × Int × Int × Int × Int × Bool × Bool × Unit) × (Sl × Int × Int × Int × Int × Bool × Bool × Unit) × Unit)) =>
 aggSt (at0 b18) (.agg (Cells.vals c93 x20.1).toArray) 7 <|
 aggSt (at0 b19) (.agg (Cells.vals c93 x20.2.1).toArray) 7 <|
 J13 ((at0 b18), ())) <|
 callT Tryz.prog 109 #[(.agg (Cells.vals c93 x15).toArray), (.int .i64 x17), (.int .i64 x2.2.1)] (.tup [(.agg c93), (.agg c93)]) fun (x21 : ((Sl × Int × Int × Int × Int × Bool × Bool × Unit) × (Sl × Int × Int × Int × Int × Bool × Bool × Unit) × Unit)) =>
 both (
 newO (.cells #[(.slice none 0 0), (.int .i64 (0 : Int)), (.int .i64 (0 : Int)), (.int .i64 (0 : Int)), (.int .i64 (0 : Int)), (.bool false), (.bool false)] 93) fun b22 =>
 keep (fun w => w.cell? p16 = some (Cell.val (.int .i64) x17)) <|
 keep (fun w => cellsAt w (at0 b12) 0 (Cells.vals c93 x15)) <|
 aggSt (at0 b18) (.agg (Cells.vals c93 x21.1).toArray) 7 <|
 aggSt (at0 b22) (.agg (Cells.vals c93 x21.2.1).toArray) 7 <|
 J13 ((at0 b18), ())) <|
 nothing) <|
 both (
 newO (.cells #[(.slice none 0 0), (.int .i64 (0 : Int)), (.int .i64 (0 : Int)), (.int .i64 (0 : Int)), (.int .i64 (0 : Int)), (.bool false), (.bool false)] 93) fun b23 =>
 keep (fun w => w.cell? p16 = some (Cell.val (.int .i64) x17)) <|
 keep (fun w => cellsAt w (at0 b12) 0 (Cells.vals c93 x15)) <|
 both (
 newO (.cells #[(.slice none 0 0), (.int .i64 (0 : Int)), (.int .i64 (0 : Int)), (.int .i64 (0 : Int)), (.int .i64 (0 : Int)), (.bool false), (.bool false)] 93) fun b24 =>
 keep (fun w => w.cell? p16 = some (Cell.val (.int .i64) x17)) <|
 keep (fun w => cellsAt w (at0 b12) 0 (Cells.vals c93 x15)) <|
 callT Tryz.prog 109 #[(.agg (Cells.vals c93 x15).toArray), (.int .i64 x17), (.int .i64 x2.2.1)] (.tup [(.agg c93), (.agg c93)]) fun (x25 : ((Sl × Int × Int × Int × Int × Bool × Bool × Unit) × (Sl × Int × Int × Int × Int × Bool × Bool × Unit) × Unit)) =>
 aggSt (at0 b24) (.agg (Cells.vals c93 x25.1).toArray) 7 <|
 aggSt (at0 b23) (.agg (Cells.vals c93 x25.2.1).toArray) 7 <|
 J13 ((at0 b24), ())) <|
 callT Tryz.prog 109 #[(.agg (Cells.vals c93 x15).toArray), (.int .i64 x17), (.int .i64 x2.2.1)] (.tup [(.agg c93), (.agg c93)]) fun (x26 : ((Sl × Int × Int × Int × Int × Bool × Bool × Unit) × (Sl × Int × Int × Int × Int × Bool × Bool × Unit) × Unit)) =>
 both (
 newO (.cells #[(.slice none 0 0), (.int .i64 (0 : Int)), (.int .i64 (0 : Int)), (.int .i64 (0 : Int)), (.int .i64 (0 : Int)), (.bool false), (.bool false)] 93) fun b27 =>
 keep (fun w => w.cell? p16 = some (Cell.val (.int .i64) x17)) <|
 keep (fun w => cellsAt w (at0 b12) 0 (Cells.vals c93 x15)) <|
 aggSt (at0 b27) (.agg (Cells.vals c93 x26.1).toArray) 7 <|
 aggSt (at0 b23) (.agg (Cells.vals c93 x26.2.1).toArray) 7 <|
 J13 ((at0 b27), ())) <|
 nothing) <|
 callT Tryz.prog 109 #[(.agg (Cells.vals c93 x15).toArray), (.int .i64 x17), (.int .i64 x2.2.1)] (.tup [(.agg c93), (.agg c93)]) fun (x28 : ((Sl × Int × Int × Int × Int × Bool × Bool × Unit) × (Sl × Int × Int × Int × Int × Bool × Bool × Unit) × Unit)) =>
 both (
 newO (.cells #[(.slice none 0 0), (.int .i64 (0 : Int)), (.int .i64 (0 : Int)), (.int .i64 (0 : Int)), (.int .i64 (0 : Int)), (.bool false), (.bool false)] 93) fun b29 =>
 keep (fun w => w.cell? p16 = some (Cell.val (.int .i64) x17)) <|
 keep (fun w => cellsAt w (at0 b12) 0 (Cells.vals c93 x15)) <|
 both (
 newO (.cells #[(.slice none 0 0), (.int .i64 (0 : Int)), (.int .i64 (0 : Int)), (.int .i64 (0 : Int)), (.int .i64 (0 : Int)), (.bool false), (.bool false)] 93) fun b30 =>
 keep (fun w => w.cell? p16 = some (Cell.val (.int .i64) x17)) <|
 keep (fun w => cellsAt w (at0 b12) 0 (Cells.vals c93 x15)) <|
 aggSt (at0 b29) (.agg (Cells.vals c93 x28.1).toArray) 7 <|
 aggSt (at0 b30) (.agg (Cells.vals c93 x28.2.1).toArray) 7 <|
 J13 ((at0 b29), ())) <|
 nothing) <|
 both (
 newO (.cells #[(.slice none 0 0), (.int .i64 (0 : Int)), (.int .i64 (0 : Int)), (.int .i64 (0 : Int)), (.int .i64 (0 : Int)), (.bool false), (.bool false)] 93) fun b31 =>
 keep (fun w => w.cell? p16 = some (Cell.val (.int .i64) x17)) <|
 keep (fun w => cellsAt w (at0 b12) 0 (Cells.vals c93 x15)) <|
 both (
 newO (.cells #[(.slice none 0 0), (.int .i64 (0 : Int)), (.int .i64 (0 : Int)), (.int .i64 (0 : Int)), (.int .i64 (0 : Int)), (.bool false), (.bool false)] 93) fun b32 =>
 keep (fun w => w.cell? p16 = some (Cell.val (.int .i64) x17)) <|
 keep (fun w => cellsAt w (at0 b12) 0 (Cells.vals c93 x15)) <|
 aggSt (at0 b32) (.agg (Cells.vals c93 x28.1).toArray) 7 <|
 aggSt (at0 b31) (.agg (Cells.vals c93 x28.2.1).toArray) 7 <|
 J13 ((at0 b32), ())) <|
 nothing) <|
 nothing) fun (s14 : Addr × Unit) =>
 lds c91 (at0 b6) fun (x33 : (Int × Int × Int × Bool × Bool × Unit)) =>
 lds c91 (s14.1.add 2) fun (x34 : (Int × Int × Int × Bool × Bool × Unit)) =>
 callT Tryz.prog 93 #[(.agg (Cells.vals c91 x33).toArray), (.agg (Cells.vals c91 x34).toArray)] (.one (.agg c91)) fun (x35 : (Int × Int × Int × Bool × Bool × Unit)) =>
 aggSt (at0 b6) (.agg (Cells.vals c91 x35).toArray) 5 <|
 J7 ()) (
 J7 ())) fun (s8 : Unit) =>
 lds c91 (at0 b6) fun (x36 : (Int × Int × Int × Bool × Bool × Unit)) =>
 aggSt (at0 b1) (.agg (Cells.vals c91 x36).toArray) 5 <|
 lds c91 (at0 b1) fun (x37 : (Int × Int × Int × Bool × Bool × Unit)) =>
 K x37
noncomputable def h83 : Hint := (hS (hR 1) (hS (hR 8) (hS (hR 8) (hJ (281474959937280, []) (hS (hR 12) (hS (hR 1) (hC (hJ (17575006178304, [(10, (.one .addr))]) (.region [0, 1, 2, 3, 4, 5, 6, 7, 8, 9, 12, 13] (.float [10, 11] (.ops 6 (.alt none (.alt none (.plain (hO 6)) (.ops 4 (.alt none (.plain (hO 2)) .stop))) (.alt none (.alt none (.plain (hO 6)) (.ops 4 (.alt none (.plain (hO 2)) .stop))) (.ops 4 (.alt none (.alt none (.plain (hO 2)) .stop) (.alt none (.alt none (.plain (hO 2)) .stop) .stop)))))))) (hR 5)) hL))) (hS (hR 2) hL)))))
theorem F83_calls {a0 : Option Addr} {a1 : Int} {K : (Int × Int × Int × Bool × Bool × Unit) → World → Prop} {w : World} (h : F83 a0 a1 K w) : callT Tryz.prog 83 #[(.pointer a0), (.int .i64 a1)] (.one (.agg c91)) K w := tied tabOk Tryz.func83 h83 [(.pointer a0), (.int .i64 a1)] h
noncomputable def F92 (a0 : Int) (K : Value → World → Prop) : World → Prop :=
 sif (a0 == (1 : Int)) (
 K (.iface 146 (.agg #[]))) (
 sif (a0 == (2 : Int)) (
 K (.iface 148 (.agg #[(.int .i64 (0 : Int))]))) (
 sif (a0 == (3 : Int)) (
 K (.iface 148 (.agg #[(.int .i64 (1 : Int))]))) (
 sif (a0 == (4 : Int)) (
 K (.iface 149 (.agg #[]))) (
 K .nilIface))))
noncomputable def h92 : Hint := (hS (hR 1) (hS (hS (hR 1) (.block (hS (hR 2) (hC (hS (hR 3) hL) (hS (hR 2) (hC (hS (hR 3) hL) (hS (hR 2) (hC (hS (hR 3) hL) (hS (hR 2) (hC (hS (hR 3) hL) hL)))))))))) (hS (hR 1) hL)))
theorem F92_calls {a0 : Int} {K : Value → World → Prop} {w : World} (h : F92 a0 K w) : callT Tryz.prog 92 #[(.int .i64 a0)] (.one (.one .any)) K w := tied tabOk Tryz.func92 h92 [(.int .i64 a0)] h
noncomputable def F93 (a0 : (Int × Int × Int × Bool × Bool × Unit)) (a1 : (Int × Int × Int × Bool × Bool × Unit)) (K : (Int × Int × Int × Bool × Bool × Unit) → World → Prop) : World → Prop :=
 newO (.cells #[(.int .i64 a0.1), (.int .i64 a0.2.1), (.int .i64 a0.2.2.1), (.bool a0.2.2.2.1), (.bool a0.2.2.2.2.1)] 91) fun b1 =>
 newO (.cells #[(.int .i64 a1.1), (.int .i64 a1.2.1), (.int .i64 a1.2.2.1), (.bool a1.2.2.2.1), (.bool a1.2.2.2.2.1)] 91) fun b2 =>
 newO (.cells #[(.int .i64 (0 : Int)), (.int .i64 (0 : Int)), (.int .i64 (0 : Int)), (.bool false), (.bool false)] 91) fun b3 =>
 ld (.int .i64) (at0 b1) fun (x4 : Int) =>
 sif (x4 == (0 : Int)) (
 lds c91 (at0 b2) fun (x5 : (Int × Int × Int × Bool × Bool × Unit)) =>
 aggSt (at0 b3) (.agg (Cells.vals c91 x5).toArray) 5 <|
 lds c91 (at0 b3) fun (x6 : (Int × Int × Int × Bool × Bool × Unit)) =>
 K x6) (
 ld (.int .i64) (at0 b2) fun (x7 : Int) =>
 sif (x7 == (0 : Int)) (
 lds c91 (at0 b1) fun (x8 : (Int × Int × Int × Bool × Bool × Unit)) =>
 aggSt (at0 b3) (.agg (Cells.vals c91 x8).toArray) 5 <|
 lds c91 (at0 b3) fun (x9 : (Int × Int × Int × Bool × Bool × Unit)) =>
 K x9) (
 ld (.int .i64) (at0 b1) fun (x10 : Int) =>
 ld (.int .i64) (at0 b2) fun (x11 : Int) =>
 ld (.int .i64) (⟨b1, 1, none⟩ : Addr) fun (x12 : Int) =>
 ld (.int .i64) (⟨b2, 1, none⟩ : Addr) fun (x13 : Int) =>
 ld (.int .i64) (⟨b1, 2, none⟩ : Addr) fun (x14 : Int) =>
 ld (.int .i64) (⟨b2, 2, none⟩ : Addr) fun (x15 : Int) =>
 ld (.bool) (⟨b1, 3, none⟩ : Addr) fun (x16 : Bool) =>
 ld (.bool) (⟨b2, 4, none⟩ : Addr) fun (x17 : Bool) =>
 newO (.cells #[(.int .i64 (0 : Int)), (.int .i64 (0 : Int)), (.int .i64 (0 : Int)), (.bool false), (.bool false)] 91) fun b18 =>
 aggSt (at0 b18) (.agg #[(.int .i64 (IntKind.wrap .i64 (x10 + x11))), (.int .i64 (IntKind.wrap .i64 (x12 + x13))), (.int .i64 (IntKind.wrap .i64 (x14 + x15))), (.bool x16), (.bool x17)]) 5 <|
 join (S := Unit) (fun J19 =>
 join (S := Bool × Unit) (fun J21 =>
 ld (.bool) (⟨b1, 4, none⟩ : Addr) fun (x23 : Bool) =>
 sif x23 (
 ld (.bool) (⟨b2, 3, none⟩ : Addr) fun (x24 : Bool) =>
 J21 (x24, ())) (
 J21 (false, ()))) fun (s22 : Bool × Unit) =>
 sif s22.1 (
 ld (.int .i64) (⟨b18, 2, none⟩ : Addr) fun (x25 : Int) =>
 stC (⟨b18, 2, none⟩ : Addr) (.int .i64 (IntKind.wrap .i64 (x25 - (1 : Int)))) <|
 J19 ()) (
 J19 ())) fun (s20 : Unit) =>
 lds c91 (at0 b18) fun (x26 : (Int × Int × Int × Bool × Bool × Unit)) =>
 aggSt (at0 b3) (.agg (Cells.vals c91 x26).toArray) 5 <|
 lds c91 (at0 b3) fun (x27 : (Int × Int × Int × Bool × Bool × Unit)) =>
 K x27))
noncomputable def h93 : Hint := (hS (hR 3) (hS (hS (hR 3) (hC (hS (hR 2) hL) hL)) (hS (hS (hR 3) (hC (hS (hR 2) hL) hL)) (hS (hR 22) (hJ (17575006175232, []) (hJ (1082331758592, [(39, tB)]) (.region [] (.ops 3 (.split 36 (hO 3) (.skips 2 (hO 1))))) (hC (hR 5) hL)) (hS (hR 2) hL))))))
theorem F93_calls {a0 : (Int × Int × Int × Bool × Bool × Unit)} {a1 : (Int × Int × Int × Bool × Bool × Unit)} {K : (Int × Int × Int × Bool × Bool × Unit) → World → Prop} {w : World} (h : F93 a0 a1 K w) : callT Tryz.prog 93 #[(.agg (Cells.vals c91 a0).toArray), (.agg (Cells.vals c91 a1).toArray)] (.one (.agg c91)) K w := tied tabOk Tryz.func93 h93 [(.agg (Cells.vals c91 a0).toArray), (.agg (Cells.vals c91 a1).toArray)] h
noncomputable def F94 (a0 : Int) (a1 : Int) (K : (Int × Int × Int × Bool × Bool × Unit) → World → Prop) : World → Prop :=
 newO (.cells #[(.int .i64 (0 : Int)), (.int .i64 (0 : Int)), (.int .i64 (0 : Int)), (.bool false), (.bool false)] 91) fun b1 =>
 newO (.cells #[(.int .i64 (0 : Int)), (.int .i64 (0 : Int)), (.int .i64 (0 : Int)), (.bool false), (.bool false)] 91) fun b2 =>
 aggSt (at0 b2) (.agg #[(.int .i64 (1 : Int)), (.int .i64 a1), (.int .i64 (0 : Int)), (.bool (a0 == (10 : Int))), (.bool (a0 == (13 : Int)))]) 5 <|
 join (S := Unit) (fun J3 =>
 join (S := Bool × Unit) (fun J5 =>
 ld (.bool) (⟨b2, 3, none⟩ : Addr) fun (x7 : Bool) =>
 sif x7 (
 J5 (true, ())) (
 ld (.bool) (⟨b2, 4, none⟩ : Addr) fun (x8 : Bool) =>
 J5 (x8, ()))) fun (s6 : Bool × Unit) =>
 sif s6.1 (
 stC (⟨b2, 2, none⟩ : Addr) (.int .i64 (1 : Int)) <|
 J3 ()) (
 J3 ())) fun (s4 : Unit) =>
 lds c91 (at0 b2) fun (x9 : (Int × Int × Int × Bool × Bool × Unit)) =>
 aggSt (at0 b1) (.agg (Cells.vals c91 x9).toArray) 5 <|
 lds c91 (at0 b1) fun (x10 : (Int × Int × Int × Bool × Bool × Unit)) =>
 K x10
noncomputable def h94 : Hint := (hS (hR 1) (hS (hR 8) (hJ (520192, []) (hJ (258048, [(17, tB)]) (.region [] (.ops 3 (.split 14 (.skips 2 (hO 1)) (hO 3)))) (hC (hR 2) hL)) (hS (hR 2) hL))))
theorem F94_calls {a0 : Int} {a1 : Int} {K : (Int × Int × Int × Bool × Bool × Unit) → World → Prop} {w : World} (h : F94 a0 a1 K w) : callT Tryz.prog 94 #[(.int .i64 a0), (.int .i64 a1)] (.one (.agg c91)) K w := tied tabOk Tryz.func94 h94 [(.int .i64 a0), (.int .i64 a1)] h
noncomputable def F95 (a0 : Sl) (K : Option Addr → World → Prop) : World → Prop :=
 sif (((a0.len : Nat) : Int) == (0 : Int)) (
 K none) (
 chk ((2 : Int) ≠ 0) <|
 drew <|
 slc a0.a 0 (IntKind.wrap .i64 (Int.tdiv ((a0.len : Nat) : Int) (2 : Int))) ((a0.cap : Nat) : Int) a0.cap 7 fun x1 =>
 ix a0.a a0.len (IntKind.wrap .i64 (Int.tdiv ((a0.len : Nat) : Int) (2 : Int))) fun p2 =>
 lds c93 (p2.add (scaled (Int.toNat (IntKind.wrap .i64 (Int.tdiv ((a0.len : Nat) : Int) (2 : Int)))) 7)) fun (x3 : (Sl × Int × Int × Int × Int × Bool × Bool × Unit)) =>
 slc a0.a (IntKind.wrap .i64 ((IntKind.wrap .i64 (Int.tdiv ((a0.len : Nat) : Int) (2 : Int))) + (1 : Int))) ((a0.len : Nat) : Int) ((a0.cap : Nat) : Int) a0.cap 7 fun x4 =>
 callT Tryz.prog 95 #[(.slice x1.a x1.len x1.cap)] (.one (.one .ptr)) fun (x5 : Option Addr) =>
 keep (fun w => cellsAt w (p2.add (scaled (Int.toNat (IntKind.wrap .i64 (Int.tdiv ((a0.len : Nat) : Int) (2 : Int)))) 7)) 0 (Cells.vals c93 x3)) <|
 callT Tryz.prog 95 #[(.slice x4.a x4.len x4.cap)] (.one (.one .ptr)) fun (x6 : Option Addr) =>
 keep (fun w => cellsAt w (p2.add (scaled (Int.toNat (IntKind.wrap .i64 (Int.tdiv ((a0.len : Nat) : Int) (2 : Int)))) 7)) 0 (Cells.vals c93 x3)) <|
 callT Tryz.prog 129 #[(.pointer x5), (.agg (Cells.vals c93 x3).toArray), (.pointer x6)] (.one (.one .ptr)) fun (x7 : Option Addr) =>
 K x7)
noncomputable def h95 : Hint := (hS (hR 1) (hS (hS (hR 3) (hC (hS (hR 1) hL) hL)) (hS (hR 4) (hS (.region [0, 1, 2, 4, 5, 6, 7, 8, 9, 10, 11, 3, 12, 13, 14] (hO 15)) hL))))
theorem F95_calls {a0 : Sl} {K : Option Addr → World → Prop} {w : World} (h : F95 a0 K w) : callT Tryz.prog 95 #[(.slice a0.a a0.len a0.cap)] (.one (.one .ptr)) K w := tied tabOk Tryz.func95 h95 [(.slice a0.a a0.len a0.cap)] h
noncomputable def F99 (a0 : Option Addr) (a1 : Int) (K : (Int × Int × Unit) → World → Prop) : World → Prop :=
 sif (decide (a1 ≤ (0 : Int))) (
 K ((0 : Int), (0 : Int), ())) (
 nn a0 fun p1 =>
 lds c84 (p1.add 2) fun (x2 : (Option Addr × Unit)) =>
 callT Tryz.prog 113 #[(.agg (Cells.vals c84 x2).toArray), (.int .i64 (0 : Int)), (.int .i64 a1)] (.one (.one (.int .i64))) fun (x3 : Int) =>
 nn a0 fun p4 =>
 lds c84 (p4.add 2) fun (x5 : (Option Addr × Unit)) =>
 callT Tryz.prog 114 #[(.agg (Cells.vals c84 x5).toArray), (.int .i64 (IntKind.wrap .i64 (x3 - (1 : Int))))] (.one (.agg c91)) fun (x6 : (Int × Int × Int × Bool × Bool × Unit)) =>
 K ((IntKind.wrap .i64 (x3 - (1 : Int))), (IntKind.wrap .i64 (a1 - x6.1)), ()))
noncomputable def h99 : Hint := (hS (hR 2) (hS (hS (hR 2) (hC (hS (hR 2) hL) hL)) (hS (hR 8) (hS (hR 12) hL))))
theorem F99_calls {a0 : Option Addr} {a1 : Int} {K : (Int × Int × Unit) → World → Prop} {w : World} (h : F99 a0 a1 K w) : callT Tryz.prog 99 #[(.pointer a0), (.int .i64 a1)] (.tup [(.one (.int .i64)), (.one (.int .i64))]) K w := tied tabOk Tryz.func99 h99 [(.pointer a0), (.int .i64 a1)] h
noncomputable def F100 (a0 : (Option Addr × Unit)) (a1 : Int) (K : Value → World → Prop) : World → Prop :=
 newO (.cells #[(.pointer a0.1)] 84) fun b1 =>
 newO (.cells #[(.int .i64 a1)] 3) fun b2 =>
 K (.func (Fn.func 135) #[] #[(.pointer (some (at0 b1))), (.pointer (some (at0 b2)))])
noncomputable def h100 : Hint := (hS (hR 3) (hS (hR 2) hL))
theorem F100_calls {a0 : (Option Addr × Unit)} {a1 : Int} {K : Value → World → Prop} {w : World} (h : F100 a0 a1 K w) : callT Tryz.prog 100 #[(.agg (Cells.vals c84 a0).toArray), (.int .i64 a1)] (.one (.one .any)) K w := tied tabOk Tryz.func100 h100 [(.agg (Cells.vals c84 a0).toArray), (.int .i64 a1)] h
noncomputable def F106 (a0 : Option Addr) (K : Int → World → Prop) : World → Prop :=
 nn a0 fun p1 =>
 lds c84 (p1.add 2) fun (x2 : (Option Addr × Unit)) =>
 callT Tryz.prog 65 #[(.agg (Cells.vals c84 x2).toArray)] (.one (.agg c91)) fun (x3 : (Int × Int × Int × Bool × Bool × Unit)) =>
 K x3.2.1
noncomputable def h106 : Hint := (hS (hR 1) (hS (hR 7) hL))
theorem F106_calls {a0 : Option Addr} {K : Int → World → Prop} {w : World} (h : F106 a0 K w) : callT Tryz.prog 106 #[(.pointer a0)] (.one (.one (.int .i64))) K w := tied tabOk Tryz.func106 h106 [(.pointer a0)] h
noncomputable def F107 (a0 : Int) (a1 : Int) (K : Int → World → Prop) : World → Prop :=
 callT Tryz.prog 92 #[(.int .i64 a0)] (.one (.one .any)) fun (x1 : Value) =>
 rdB Tryz.prog (do eqGuard .eql 118 (Operand.tmp 8) (Operand.const Value.nilIface) x1 .nilIface; binOp .eql 118 x1 .nilIface : Sem Value) fun r2 =>
 sif r2 (
 K (0 : Int)) (
 callX Tryz.prog (invoke (.fn (.method "copyist/codec.size") #[]) (#[x1] ++ #[(.int .i64 a1)])) (.one (.one (.int .i64))) fun (x3 : Int) =>
 K x3)
noncomputable def h107 : Hint := (hS (hR 1) (hS (hR 3) (hS (hS (hR 2) (hC (hS (hR 1) hL) hL)) (hS (hR 4) hL))))
theorem F107_calls {a0 : Int} {a1 : Int} {K : Int → World → Prop} {w : World} (h : F107 a0 a1 K w) : callT Tryz.prog 107 #[(.int .i64 a0), (.int .i64 a1)] (.one (.one (.int .i64))) K w := tied tabOk Tryz.func107 h107 [(.int .i64 a0), (.int .i64 a1)] h
noncomputable def F108 (a0 : (Option Addr × Unit)) (a1 : Int) (K : ((Sl × Int × Int × Int × Int × Bool × Bool × Unit) × Bool × Unit) → World → Prop) : World → Prop :=
 newO (.cells #[(.pointer a0.1)] 84) fun b1 =>
 newO (.cells #[(.slice none 0 0), (.int .i64 (0 : Int)), (.int .i64 (0 : Int)), (.int .i64 (0 : Int)), (.int .i64 (0 : Int)), (.bool false), (.bool false)] 93) fun b2 =>
 join (S := Unit) (fun J3 =>
 ld (.ptr) (at0 b1) fun (x5 : Option Addr) =>
 sloop (S := Int × Option Addr × Unit) (fun (s6 : Int × Option Addr × Unit) again7 =>
 join (S := Bool × Unit) (fun J8 =>
 sif (!(Option.isNone s6.2.1)) (
 J8 ((decide (s6.1 ≥ (0 : Int))), ())) (
 J8 (false, ()))) fun (s9 : Bool × Unit) =>
 sif s9.1 (
 nn s6.2.1 fun p10 =>
 ld (.ptr) p10 fun (x11 : Option Addr) =>
 callT Tryz.prog 137 #[(.pointer x11)] (.one (.one (.int .i64))) fun (x12 : Int) =>
 sif (s6.1 == x12) (
 nn s6.2.1 fun p13 =>
 lds c93 (p13.add 2) fun (x14 : (Sl × Int × Int × Int × Int × Bool × Bool × Unit)) =>
 aggSt (at0 b2) (.agg (Cells.vals c93 x14).toArray) 7 <|
 lds c93 (at0 b2) fun (x15 : (Sl × Int × Int × Int × Int × Bool × Bool × Unit)) =>
 K (x15, true, ())) (
 sif (decide (s6.1 < x12)) (
 nn s6.2.1 fun p16 =>
 ld (.ptr) p16 fun (x17 : Option Addr) =>
 again7 (s6.1, x17, ())) (
 nn s6.2.1 fun p18 =>
 ld (.ptr) (p18.add 1) fun (x19 : Option Addr) =>
 again7 ((IntKind.wrap .i64 ((IntKind.wrap .i64 (s6.1 - x12)) - (1 : Int))), x19, ())))) (
 J3 ())) (a1, x5, ())) fun (s4 : Unit) =>
 newO (.cells #[(.slice none 0 0), (.int .i64 (0 : Int)), (.int .i64 (0 : Int)), (.int .i64 (0 : Int)), (.int .i64 (0 : Int)), (.bool false), (.bool false)] 93) fun b20 =>
 lds c93 (at0 b20) fun (x21 : (Sl × Int × Int × Int × Int × Bool × Bool × Unit)) =>
 aggSt (at0 b2) (.agg (Cells.vals c93 x21).toArray) 7 <|
 lds c93 (at0 b2) fun (x22 : (Sl × Int × Int × Int × Int × Bool × Bool × Unit)) =>
 K (x22, false, ())
noncomputable def h108 : Hint := (hS (hR 3) (hJ (70368744177378, []) (hS (hR 3) (.block (.loop 70368744175842 [(1, tI), (6, tP)] (hS (hJ (129024, [(16, tB)]) (.region [] (.ops 3 (.split 13 (hO 3) (.skips 2 (hO 1))))) (hC hL hL)) (.block (hS (hR 6) (.block (hS (hR 4) (hC (hS (hR 6) hL) (hS (hR 4) (hC (hR 5) (hR 10)))))))))))) (hS (hR 1) (hS (hR 3) hL))))
theorem F108_calls {a0 : (Option Addr × Unit)} {a1 : Int} {K : ((Sl × Int × Int × Int × Int × Bool × Bool × Unit) × Bool × Unit) → World → Prop} {w : World} (h : F108 a0 a1 K w) : callT Tryz.prog 108 #[(.agg (Cells.vals c84 a0).toArray), (.int .i64 a1)] (.tup [(.agg c93), (.one .bool)]) K w := tied tabOk Tryz.func108 h108 [(.agg (Cells.vals c84 a0).toArray), (.int .i64 a1)] h
noncomputable def F109 (a0 : (Sl × Int × Int × Int × Int × Bool × Bool × Unit)) (a1 : Int) (a2 : Int) (K : ((Sl × Int × Int × Int × Int × Bool × Bool × Unit) × (Sl × Int × Int × Int × Int × Bool × Bool × Unit) × Unit) → World → Prop) : World → Prop :=
 newO (.cells #[(.slice a0.1.a a0.1.len a0.1.cap), (.int .i64 a0.2.1), (.int .i64 a0.2.2.1), (.int .i64 a0.2.2.2.1), (.int .i64 a0.2.2.2.2.1), (.bool a0.2.2.2.2.2.1), (.bool a0.2.2.2.2.2.2.1)] 93) fun b1 =>
 newO (.cells #[(.slice none 0 0), (.int .i64 (0 : Int)), (.int .i64 (0 : Int)), (.int .i64 (0 : Int)), (.int .i64 (0 : Int)), (.bool false), (.bool false)] 93) fun b2 =>
 newO (.cells #[(.slice none 0 0), (.int .i64 (0 : Int)), (.int .i64 (0 : Int)), (.int .i64 (0 : Int)), (.int .i64 (0 : Int)), (.bool false), (.bool false)] 93) fun b3 =>
 join (S := Int × Unit) (fun J4 =>
 sloop (S := Int × Int × Unit) (fun (s6 : Int × Int × Unit) again7 =>
 join (S := Bool × Unit) (fun J8 =>
 sif (decide (s6.1 > (0 : Int))) (
 ld (.sl) (at0 b1) fun (x10 : Sl) =>
 J8 ((decide (s6.2.1 < ((x10.len : Nat) : Int))), ())) (
 J8 (false, ()))) fun (s9 : Bool × Unit) =>
 sif s9.1 (
 ld (.sl) (at0 b1) fun (x11 : Sl) =>
 callT Tryz.prog 53 #[(.int .i64 a1), (.slice x11.a x11.len x11.cap), (.int .i64 s6.2.1)] (.tup [(.one (.int .i64)), (.one (.int .i64))]) fun (x12 : (Int × Int × Unit)) =>
 again7 ((IntKind.wrap .i64 (s6.1 - (1 : Int))), (IntKind.wrap .i64 (s6.2.1 + x12.2.1)), ())) (
 J4 (s6.2.1, ()))) (a2, (0 : Int), ())) fun (s5 : Int × Unit) =>
 ld (.int .i64) (⟨b1, 1, none⟩ : Addr) fun (x13 : Int) =>
 join (S := Int × Unit) (fun J14 =>
 sif (decide (x13 ≥ (0 : Int))) (
 J14 ((IntKind.wrap .i64 (x13 + s5.1)), ())) (
 J14 (x13, ()))) fun (s15 : Int × Unit) =>
 drew <|
 ld (.sl) (at0 b1) fun (x16 : Sl) =>
 slc x16.a 0 s5.1 s5.1 x16.cap 1 fun x17 =>
 ld (.int .i64) (⟨b1, 1, none⟩ : Addr) fun (x18 : Int) =>
 ld (.sl) (at0 b1) fun (x19 : Sl) =>
 slc x19.a s5.1 ((x19.len : Nat) : Int) ((x19.cap : Nat) : Int) x19.cap 1 fun x20 =>
 callT Tryz.prog 54 #[(.int .i64 a1), (.slice x17.a x17.len x17.cap), (.int .i64 x18)] (.one (.agg c93)) fun (x21 : (Sl × Int × Int × Int × Int × Bool × Bool × Unit)) =>
 keep (fun w => w.cell? (at0 b1) = some (Cell.val (.sl) x19)) <|
 callT Tryz.prog 54 #[(.int .i64 a1), (.slice x20.a x20.len x20.cap), (.int .i64 s15.1)] (.one (.agg c93)) fun (x22 : (Sl × Int × Int × Int × Int × Bool × Bool × Unit)) =>
 aggSt (at0 b2) (.agg (Cells.vals c93 x21).toArray) 7 <|
 aggSt (at0 b3) (.agg (Cells.vals c93 x22).toArray) 7 <|
 lds c93 (at0 b2) fun (x23 : (Sl × Int × Int × Int × Int × Bool × Bool × Unit)) =>
 lds c93 (at0 b3) fun (x24 : (Sl × Int × Int × Int × Int × Bool × Bool × Unit)) =>
 K (x23, x24, ())
noncomputable def h109 : Hint := (hS (hR 3) (hS (hR 1) (hJ (17179866884, [(8, tI)]) (.block (.loop 17179866884 [(2, tI), (8, tI)] (hS (hJ (2093056, [(20, tB)]) (.region [] (.ops 3 (.split 14 (hO 6) (.skips 5 (hO 1))))) (hC hL hL)) (hS (.block (hS (hR 10) (hR 4))) (hR 3))))) (hS (hR 3) (hJ (2130303780864, [(11, tI)]) (hS (hR 2) (hC (hR 4) hL)) (hS (.region [0, 1, 2, 3, 4, 5, 6, 7, 9, 10, 11, 12, 13, 14, 8, 15, 16, 17] (hO 18)) hL))))))
theorem F109_calls {a0 : (Sl × Int × Int × Int × Int × Bool × Bool × Unit)} {a1 : Int} {a2 : Int} {K : ((Sl × Int × Int × Int × Int × Bool × Bool × Unit) × (Sl × Int × Int × Int × Int × Bool × Bool × Unit) × Unit) → World → Prop} {w : World} (h : F109 a0 a1 a2 K w) : callT Tryz.prog 109 #[(.agg (Cells.vals c93 a0).toArray), (.int .i64 a1), (.int .i64 a2)] (.tup [(.agg c93), (.agg c93)]) K w := tied tabOk Tryz.func109 h109 [(.agg (Cells.vals c93 a0).toArray), (.int .i64 a1), (.int .i64 a2)] h
noncomputable def F110 (a0 : Option Addr) (a1 : Sl) (K : Sl → World → Prop) : World → Prop :=
 newO (.cells #[(.pointer a0)] 27) fun b1 =>
 newO (.cells #[(.slice none 0 0)] 87) fun b2 =>
 ld (.ptr) (at0 b1) fun (x3 : Option Addr) =>
 nn x3 fun p4 =>
 ld (.sl) (p4.add 3) fun (x5 : Sl) =>
 newO (.cells #[(.int .i64 (0 : Int))] 3) fun b6 =>
 stC (at0 b6) (.int .i64 ((x5.len : Nat) : Int)) <|
 newO (.cells #[(.int .i64 (0 : Int))] 3) fun b7 =>
 stC (at0 b7) (.int .i64 (0 : Int)) <|
 join (S := Unit) (fun J8 =>
 sloop (S := Int × Unit) (fun (s10 : Int × Unit) again11 =>
 sif (decide (s10.1 < ((a1.len : Nat) : Int))) (
 join (S := Unit) (fun J12 =>
 ix a1.a a1.len s10.1 fun p14 =>
 ld (.int .i64) (p14.add (scaled (Int.toNat s10.1) 1)) fun (x15 : Int) =>
 join (S := Bool × Unit) (fun J16 =>
 sif (decide (x15 ≥ (0 : Int))) (
 sif (decide (x15 < (55296 : Int))) (
 J16 (true, ())) (
 J16 ((decide (x15 > (57343 : Int))), ()))) (
 J16 (false, ()))) fun (s17 : Bool × Unit) =>
 join (S := Unit) (fun J18 =>
 join (S := Bool × Unit) (fun J20 =>
 sif (!s17.1) (
 J20 (true, ())) (
 ld (.int .i64) (at0 b7) fun (x22 : Int) =>
 J20 ((x22 == (128 : Int)), ()))) fun (s21 : Bool × Unit) =>
 sif s21.1 (
 callX Tryz.prog (do let d ← Deferred.ofValue (.func (Fn.func 145) #[] #[(.pointer (some (at0 b1))), (.pointer (some (at0 b6))), (.pointer (some (at0 b2))), (.pointer (some (at0 b7)))]) #[]; invoke d.target d.args : Sem Next) (.tup []) fun (x23 : (Unit)) =>
 J18 ()) (
 J18 ())) fun (s19 : Unit) =>
 ld (.ptr) (at0 b1) fun (x24 : Option Addr) =>
 nn x24 fun p25 =>
 ld (.int .i64) p25 fun (x26 : Int) =>
 newO (.cells #[(.int .i64 x15)] 3) fun b27 =>
 callT Tryz.prog 146 #[(.int .i64 x26), (.slice (some (at0 b27)) 1 1)] (.tup [(.one .sl), (.one (.int .i64)), (.one (.int .i64))]) fun (x28 : (Sl × Int × Int × Unit)) =>
 drew <|
 ld (.ptr) (at0 b1) fun (x29 : Option Addr) =>
 ld (.ptr) (at0 b1) fun (x30 : Option Addr) =>
 nn x30 fun p31 =>
 ld (.sl) (p31.add 3) fun (x32 : Sl) =>
 rawT Tryz.prog (.one (.one .sl)) (Builtin.append_ #[22, 22] 22 #[(.slice x32.a x32.len x32.cap), (.slice x28.1.a x28.1.len x28.1.cap)]) fun (x33 : Sl) =>
 keep (fun w => w.cell? (at0 b1) = some (Cell.val (.ptr) x29)) <|
 nn x29 fun p34 =>
 stC (p34.add 3) (.slice x33.a x33.len x33.cap) <|
 ld (.int .i64) (at0 b7) fun (x35 : Int) =>
 stC (at0 b7) (.int .i64 (IntKind.wrap .i64 (x35 + (1 : Int)))) <|
 sif (!s17.1) (
 callX Tryz.prog (do let d ← Deferred.ofValue (.func (Fn.func 145) #[] #[(.pointer (some (at0 b1))), (.pointer (some (at0 b6))), (.pointer (some (at0 b2))), (.pointer (some (at0 b7)))]) #[]; invoke d.target d.args : Sem Next) (.tup []) fun (x36 : (Unit)) =>
 J12 ()) (
 J12 ())) fun (s13 : Unit) =>
 again11 ((IntKind.wrap .i64 (s10.1 + (1 : Int))), ())) (
 J8 ())) ((0 : Int), ())) fun (s9 : Unit) =>
 callX Tryz.prog (do let d ← Deferred.ofValue (.func (Fn.func 145) #[] #[(.pointer (some (at0 b1))), (.pointer (some (at0 b6))), (.pointer (some (at0 b2))), (.pointer (some (at0 b7)))]) #[]; invoke d.target d.args : Sem Next) (.tup []) fun (x37 : (Unit)) =>
 ld (.sl) (at0 b2) fun (x38 : Sl) =>
 K x38
noncomputable def h110 : Hint := (hS (hR 2) (hS (hR 1) (hS (hR 7) (hS (hR 2) (hS (hR 2) (hJ (4722366482869643148288, []) (hS (hR 3) (.block (.loop 4722366482869636856832 [(23, tI)] (hS (hR 1) (hS (hC hL hL) (hJ (2361183241434789084160, []) (.block (hS (hR 3) (hJ (137304737792, [(11, tB)]) (.region [] (.ops 3 (.split 29 (.ops 3 (.split 32 (.skips 2 (hO 3)) (hO 5))) (.skips 6 (hO 2))))) (hJ (35046933135360, []) (hJ (8658654068736, [(42, tB)]) (.region [] (.ops 3 (.split 39 (.skips 2 (hO 1)) (hO 3)))) (hC (hR 2) hL)) (hS (hR 14) (hS (.region [0, 1, 2, 3, 4, 5, 6, 7, 8, 9] (hO 10)) (hS (hR 3) (hS (hR 2) (hC (hR 2) hL))))))))) (hR 2))))))) (hS (hR 2) (hS (hR 2) hL))))))))
theorem F110_calls {a0 : Option Addr} {a1 : Sl} {K : Sl → World → Prop} {w : World} (h : F110 a0 a1 K w) : callT Tryz.prog 110 #[(.pointer a0), (.slice a1.a a1.len a1.cap)] (.one (.one .sl)) K w := tied tabOk Tryz.func110 h110 [(.pointer a0), (.slice a1.a a1.len a1.cap)] h
noncomputable def F111 (a0 : (Option Addr × Unit)) (a1 : Int) (a2 : Int) (a3 : Sl) (K : ((Option Addr × Unit) × Int × Unit) → World → Prop) : World → Prop :=
 newO (.cells #[(.pointer a0.1)] 84) fun b1 =>
 newO (.cells #[(.pointer none)] 84) fun b2 =>
 join (S := Bool × Unit) (fun J3 =>
 sif (decide (a1 < (0 : Int))) (
 J3 (true, ())) (
 sif (decide (a1 > a2)) (
 J3 (true, ())) (
 lds c84 (at0 b1) fun (x5 : (Option Addr × Unit)) =>
 callT Tryz.prog 112 #[(.agg (Cells.vals c84 x5).toArray)] (.one (.one (.int .i64))) fun (x6 : Int) =>
 J3 ((decide (a2 > x6)), ())))) fun (s4 : Bool × Unit) =>
 sif s4.1 (
 aggSt (at0 b2) (.agg #[(.pointer none)]) 1 <|
 lds c84 (at0 b2) fun (x7 : (Option Addr × Unit)) =>
 K (x7, (1 : Int), ())) (
 ld (.ptr) (at0 b1) fun (x8 : Option Addr) =>
 callT Tryz.prog 147 #[(.pointer x8), (.int .i64 a1)] (.tup [(.one .ptr), (.one .ptr)]) fun (x9 : (Option Addr × Option Addr × Unit)) =>
 ld (.ptr) (at0 b1) fun (x10 : Option Addr) =>
 callT Tryz.prog 147 #[(.pointer x10), (.int .i64 a2)] (.tup [(.one .ptr), (.one .ptr)]) fun (x11 : (Option Addr × Option Addr × Unit)) =>
 callT Tryz.prog 95 #[(.slice a3.a a3.len a3.cap)] (.one (.one .ptr)) fun (x12 : Option Addr) =>
 callT Tryz.prog 148 #[(.pointer x9.1), (.pointer x12)] (.one (.one .ptr)) fun (x13 : Option Addr) =>
 callT Tryz.prog 148 #[(.pointer x13), (.pointer x11.2.1)] (.one (.one .ptr)) fun (x14 : Option Addr) =>
 aggSt (at0 b2) (.agg #[(.pointer x14)]) 1 <|
 lds c84 (at0 b2) fun (x15 : (Option Addr × Unit)) =>
 K (x15, (0 : Int), ()))
noncomputable def h111 : Hint := (hS (hR 3) (hS (hJ (134201344, [(26, tB)]) (.region [] (.ops 3 (.split 16 (.skips 3 (.ops 2 (.skips 4 (hO 1)))) (.ops 5 (.split 21 (.skips 4 (hO 1)) (hO 5)))))) (hC (hS (hR 3) hL) hL)) (hS (hR 9) (hS (hR 9) (hS (hR 9) hL)))))
theorem F111_calls {a0 : (Option Addr × Unit)} {a1 : Int} {a2 : Int} {a3 : Sl} {K : ((Option Addr × Unit) × Int × Unit) → World → Prop} {w : World} (h : F111 a0 a1 a2 a3 K w) : callT Tryz.prog 111 #[(.agg (Cells.vals c84 a0).toArray), (.int .i64 a1), (.int .i64 a2), (.slice a3.a a3.len a3.cap)] (.tup [(.agg c84), (.one (.int .i64))]) K w := tied tabOk Tryz.func111 h111 [(.agg (Cells.vals c84 a0).toArray), (.int .i64 a1), (.int .i64 a2), (.slice a3.a a3.len a3.cap)] h
noncomputable def F112 (a0 : (Option Addr × Unit)) (K : Int → World → Prop) : World → Prop :=
 newO (.cells #[(.pointer a0.1)] 84) fun b1 =>
 ld (.ptr) (at0 b1) fun (x2 : Option Addr) =>
 callT Tryz.prog 137 #[(.pointer x2)] (.one (.one (.int .i64))) fun (x3 : Int) =>
 K x3
noncomputable def h112 : Hint := (hS (hR 2) (hS (hR 4) hL))
theorem F112_calls {a0 : (Option Addr × Unit)} {K : Int → World → Prop} {w : World} (h : F112 a0 K w) : callT Tryz.prog 112 #[(.agg (Cells.vals c84 a0).toArray)] (.one (.one (.int .i64))) K w := tied tabOk Tryz.func112 h112 [(.agg (Cells.vals c84 a0).toArray)] h
noncomputable def F113 (a0 : (Option Addr × Unit)) (a1 : Int) (a2 : Int) (K : Int → World → Prop) : World → Prop :=
 newO (.cells #[(.pointer a0.1)] 84) fun b1 =>
 sif (decide (a2 ≤ (0 : Int))) (
 K (0 : Int)) (
 newO (.cells #[(.int .i64 (0 : Int)), (.int .i64 (0 : Int)), (.int .i64 (0 : Int)), (.bool false), (.bool false)] 91) fun b2 =>
 join (S := Int × Unit) (fun J3 =>
 ld (.ptr) (at0 b1) fun (x5 : Option Addr) =>
 sloop (S := Int × Option Addr × Unit) (fun (s6 : Int × Option Addr × Unit) again7 =>
 sif (!(Option.isNone s6.2.1)) (
 lds c91 (at0 b2) fun (x8 : (Int × Int × Int × Bool × Bool × Unit)) =>
 newO (.cells #[(.int .i64 (0 : Int)), (.int .i64 (0 : Int)), (.int .i64 (0 : Int)), (.bool false), (.bool false)] 91) fun b9 =>
 aggSt (at0 b9) (.agg (Cells.vals c91 x8).toArray) 5 <|
 join (S := Unit) (fun J10 =>
 nn s6.2.1 fun p12 =>
 ld (.ptr) p12 fun (x13 : Option Addr) =>
 sif (!(Option.isNone x13)) (
 drew <|
 lds c91 (at0 b2) fun (x14 : (Int × Int × Int × Bool × Bool × Unit)) =>
 nn s6.2.1 fun p15 =>
 ld (.ptr) p15 fun (x16 : Option Addr) =>
 nn x16 fun p17 =>
 lds c91 (p17.add 11) fun (x18 : (Int × Int × Int × Bool × Bool × Unit)) =>
 callX Tryz.prog (invoke (.fn (.method "Add") #[]) (#[(.iface 91 (.agg (Cells.vals c91 x14).toArray))] ++ #[(.agg (Cells.vals c91 x18).toArray)])) (.one (.agg c91)) fun (x19 : (Int × Int × Int × Bool × Bool × Unit)) =>
 aggSt (at0 b9) (.agg (Cells.vals c91 x19).toArray) 5 <|
 J10 ()) (
 J10 ())) fun (s11 : Unit) =>
 lds c91 (at0 b9) fun (x20 : (Int × Int × Int × Bool × Bool × Unit)) =>
 callX Tryz.prog (invoke (.fn (.method "Key") #[]) (#[(.iface 91 (.agg (Cells.vals c91 x20).toArray))] ++ #[(.int .i64 a1)])) (.one (.one (.int .i64))) fun (x21 : Int) =>
 sif (decide (x21 ≥ a2)) (
 nn s6.2.1 fun p22 =>
 ld (.ptr) p22 fun (x23 : Option Addr) =>
 again7 (s6.1, x23, ())) (
 nn s6.2.1 fun p24 =>
 ld (.ptr) p24 fun (x25 : Option Addr) =>
 callT Tryz.prog 137 #[(.pointer x25)] (.one (.one (.int .i64))) fun (x26 : Int) =>
 drew <|
 lds c91 (at0 b9) fun (x27 : (Int × Int × Int × Bool × Bool × Unit)) =>
 nn s6.2.1 fun p28 =>
 lds c93 (p28.add 2) fun (x29 : (Sl × Int × Int × Int × Int × Bool × Bool × Unit)) =>
 callX Tryz.prog (invoke (.fn (.method "Measure") #[]) (#[(.iface 93 (.agg (Cells.vals c93 x29).toArray))] ++ #[])) (.one (.agg c91)) fun (x30 : (Int × Int × Int × Bool × Bool × Unit)) =>
 keep (fun w => cellsAt w (at0 b9) 0 (Cells.vals c91 x27)) <|
 callX Tryz.prog (invoke (.fn (.method "Add") #[]) (#[(.iface 91 (.agg (Cells.vals c91 x27).toArray))] ++ #[(.agg (Cells.vals c91 x30).toArray)])) (.one (.agg c91)) fun (x31 : (Int × Int × Int × Bool × Bool × Unit)) =>
 aggSt (at0 b2) (.agg (Cells.vals c91 x31).toArray) 5 <|
 lds c91 (at0 b2) fun (x32 : (Int × Int × Int × Bool × Bool × Unit)) =>
 callX Tryz.prog (invoke (.fn (.method "Key") #[]) (#[(.iface 91 (.agg (Cells.vals c91 x32).toArray))] ++ #[(.int .i64 a1)])) (.one (.one (.int .i64))) fun (x33 : Int) =>
 sif (decide (x33 ≥ a2)) (
 K (IntKind.wrap .i64 (s6.1 + (IntKind.wrap .i64 (x26 + (1 : Int)))))) (
 nn s6.2.1 fun p34 =>
 ld (.ptr) (p34.add 1) fun (x35 : Option Addr) =>
 again7 ((IntKind.wrap .i64 (s6.1 + (IntKind.wrap .i64 (x26 + (1 : Int))))), x35, ())))) (
 J3 (s6.1, ()))) ((0 : Int), x5, ())) fun (s4 : Int × Unit) =>
 K (IntKind.wrap .i64 (s4.1 + (1 : Int))))
noncomputable def h113 : Hint := (hS (hR 2) (hS (hS (hR 2) (hC (hS (hR 1) hL) hL)) (hS (hR 1) (hS (hR 1) (hJ (2361183241434822600512, [(8, tI)]) (hS (hR 3) (.block (.loop 2361183241434822575936 [(8, tI), (9, tP)] (hS (hS (hR 2) (hC hL hL)) (.block (hS (hR 3) (hJ (8589672448, []) (hS (hR 5) (hC (.region [0, 1, 2, 3, 4, 5, 6, 7, 8, 9, 10] (hO 11)) hL)) (hS (hS (hR 6) (hC (hS (hR 5) hL) hL)) (hS (hR 9) (hS (.region [0, 1, 2, 3, 4, 5, 6, 7, 8, 9] (hO 10)) (hS (hS (hR 6) (hC (hS (hR 2) hL) hL)) (hR 5)))))))))))) (hS (hR 3) hL))))))
theorem F113_calls {a0 : (Option Addr × Unit)} {a1 : Int} {a2 : Int} {K : Int → World → Prop} {w : World} (h : F113 a0 a1 a2 K w) : callT Tryz.prog 113 #[(.agg (Cells.vals c84 a0).toArray), (.int .i64 a1), (.int .i64 a2)] (.one (.one (.int .i64))) K w := tied tabOk Tryz.func113 h113 [(.agg (Cells.vals c84 a0).toArray), (.int .i64 a1), (.int .i64 a2)] h
noncomputable def F114 (a0 : (Option Addr × Unit)) (a1 : Int) (K : (Int × Int × Int × Bool × Bool × Unit) → World → Prop) : World → Prop :=
 newO (.cells #[(.pointer a0.1)] 84) fun b1 =>
 newO (.cells #[(.int .i64 (0 : Int)), (.int .i64 (0 : Int)), (.int .i64 (0 : Int)), (.bool false), (.bool false)] 91) fun b2 =>
 newO (.cells #[(.int .i64 (0 : Int)), (.int .i64 (0 : Int)), (.int .i64 (0 : Int)), (.bool false), (.bool false)] 91) fun b3 =>
 lds c84 (at0 b1) fun (x4 : (Option Addr × Unit)) =>
 callT Tryz.prog 112 #[(.agg (Cells.vals c84 x4).toArray)] (.one (.one (.int .i64))) fun (x5 : Int) =>
 join (S := Unit) (fun J6 =>
 ld (.ptr) (at0 b1) fun (x8 : Option Addr) =>
 sloop (S := Int × Option Addr × Unit) (fun (s9 : Int × Option Addr × Unit) again10 =>
 join (S := Bool × Unit) (fun J11 =>
 sif (!(Option.isNone s9.2.1)) (
 J11 ((decide (s9.1 > (0 : Int))), ())) (
 J11 (false, ()))) fun (s12 : Bool × Unit) =>
 sif s12.1 (
 nn s9.2.1 fun p13 =>
 ld (.ptr) p13 fun (x14 : Option Addr) =>
 callT Tryz.prog 137 #[(.pointer x14)] (.one (.one (.int .i64))) fun (x15 : Int) =>
 sif (decide (s9.1 ≤ x15)) (
 nn s9.2.1 fun p16 =>
 ld (.ptr) p16 fun (x17 : Option Addr) =>
 again10 (s9.1, x17, ())) (
 join (S := Unit) (fun J18 =>
 nn s9.2.1 fun p20 =>
 ld (.ptr) p20 fun (x21 : Option Addr) =>
 sif (!(Option.isNone x21)) (
 drew <|
 lds c91 (at0 b3) fun (x22 : (Int × Int × Int × Bool × Bool × Unit)) =>
 nn s9.2.1 fun p23 =>
 ld (.ptr) p23 fun (x24 : Option Addr) =>
 nn x24 fun p25 =>
 lds c91 (p25.add 11) fun (x26 : (Int × Int × Int × Bool × Bool × Unit)) =>
 callX Tryz.prog (invoke (.fn (.method "Add") #[]) (#[(.iface 91 (.agg (Cells.vals c91 x22).toArray))] ++ #[(.agg (Cells.vals c91 x26).toArray)])) (.one (.agg c91)) fun (x27 : (Int × Int × Int × Bool × Bool × Unit)) =>
 aggSt (at0 b3) (.agg (Cells.vals c91 x27).toArray) 5 <|
 J18 ()) (
 J18 ())) fun (s19 : Unit) =>
 drew <|
 lds c91 (at0 b3) fun (x28 : (Int × Int × Int × Bool × Bool × Unit)) =>
 nn s9.2.1 fun p29 =>
 lds c93 (p29.add 2) fun (x30 : (Sl × Int × Int × Int × Int × Bool × Bool × Unit)) =>
 callX Tryz.prog (invoke (.fn (.method "Measure") #[]) (#[(.iface 93 (.agg (Cells.vals c93 x30).toArray))] ++ #[])) (.one (.agg c91)) fun (x31 : (Int × Int × Int × Bool × Bool × Unit)) =>
 keep (fun w => cellsAt w (at0 b3) 0 (Cells.vals c91 x28)) <|
 callX Tryz.prog (invoke (.fn (.method "Add") #[]) (#[(.iface 91 (.agg (Cells.vals c91 x28).toArray))] ++ #[(.agg (Cells.vals c91 x31).toArray)])) (.one (.agg c91)) fun (x32 : (Int × Int × Int × Bool × Bool × Unit)) =>
 aggSt (at0 b3) (.agg (Cells.vals c91 x32).toArray) 5 <|
 nn s9.2.1 fun p33 =>
 ld (.ptr) (p33.add 1) fun (x34 : Option Addr) =>
 again10 ((IntKind.wrap .i64 ((IntKind.wrap .i64 (s9.1 - x15)) - (1 : Int))), x34, ()))) (
 J6 ())) ((if x5 < a1 then x5 else a1), x8, ())) fun (s7 : Unit) =>
 lds c91 (at0 b3) fun (x35 : (Int × Int × Int × Bool × Bool × Unit)) =>
 aggSt (at0 b2) (.agg (Cells.vals c91 x35).toArray) 5 <|
 lds c91 (at0 b2) fun (x36 : (Int × Int × Int × Bool × Bool × Unit)) =>
 K x36
noncomputable def h114 : Hint := (hS (hR 2) (hS (hR 1) (hS (hR 5) (hJ (18446744073709547714, []) (hS (hR 3) (.block (.loop 18446744073709535426 [(1, tI), (6, tP)] (hS (hJ (1032192, [(19, tB)]) (.region [] (.ops 3 (.split 16 (hO 3) (.skips 2 (hO 1))))) (hC hL hL)) (.block (hS (hR 6) (hS (hS (hR 3) (hC (hS (hR 5) hL) hL)) (hJ (140733193388032, []) (hS (hR 5) (hC (.region [0, 1, 2, 3, 4, 5, 6, 7, 8, 9, 10] (hO 11)) hL)) (hS (.region [0, 1, 2, 3, 4, 5, 6, 7, 8, 9] (hO 10)) (hR 10)))))))))) (hS (hR 2) hL)))))
theorem F114_calls {a0 : (Option Addr × Unit)} {a1 : Int} {K : (Int × Int × Int × Bool × Bool × Unit) → World → Prop} {w : World} (h : F114 a0 a1 K w) : callT Tryz.prog 114 #[(.agg (Cells.vals c84 a0).toArray), (.int .i64 a1)] (.one (.agg c91)) K w := tied tabOk Tryz.func114 h114 [(.agg (Cells.vals c84 a0).toArray), (.int .i64 a1)] h
noncomputable def F129 (a0 : Option Addr) (a1 : (Sl × Int × Int × Int × Int × Bool × Bool × Unit)) (a2 : Option Addr) (K : Option Addr → World → Prop) : World → Prop :=
 newO (.cells #[(.slice a1.1.a a1.1.len a1.1.cap), (.int .i64 a1.2.1), (.int .i64 a1.2.2.1), (.int .i64 a1.2.2.2.1), (.int .i64 a1.2.2.2.2.1), (.bool a1.2.2.2.2.2.1), (.bool a1.2.2.2.2.2.2.1)] 93) fun b1 =>
 drew <|
 lds c93 (at0 b1) fun (x2 : (Sl × Int × Int × Int × Int × Bool × Bool × Unit)) =>
 callT Tryz.prog 137 #[(.pointer a0)] (.one (.one (.int .i64))) fun (x3 : Int) =>
 keep (fun w => cellsAt w (at0 b1) 0 (Cells.vals c93 x2)) <|
 callT Tryz.prog 137 #[(.pointer a2)] (.one (.one (.int .i64))) fun (x4 : Int) =>
 keep (fun w => cellsAt w (at0 b1) 0 (Cells.vals c93 x2)) <|
 callT Tryz.prog 152 #[(.pointer a0)] (.one (.one (.int .i64))) fun (x5 : Int) =>
 keep (fun w => cellsAt w (at0 b1) 0 (Cells.vals c93 x2)) <|
 callT Tryz.prog 152 #[(.pointer a2)] (.one (.one (.int .i64))) fun (x6 : Int) =>
 keep (fun w => cellsAt w (at0 b1) 0 (Cells.vals c93 x2)) <|
 newO (.cells (Value.cells (.agg #[(.pointer a0), (.pointer a2), (.slice x2.1.a x2.1.len x2.1.cap), (.int .i64 x2.2.1), (.int .i64 x2.2.2.1), (.int .i64 x2.2.2.2.1), (.int .i64 x2.2.2.2.2.1), (.bool x2.2.2.2.2.2.1), (.bool x2.2.2.2.2.2.2.1), (.int .i64 (IntKind.wrap .i64 ((IntKind.wrap .i64 (x3 + (1 : Int))) + x4))), (.int .i64 (IntKind.wrap .i64 ((if x6 > x5 then x6 else x5) + (1 : Int)))), (.int .i64 (0 : Int)), (.int .i64 (0 : Int)), (.int .i64 (0 : Int)), (.bool false), (.bool false)])) 139) fun b7 =>
 lds c93 (at0 b1) fun (x8 : (Sl × Int × Int × Int × Int × Bool × Bool × Unit)) =>
 callX Tryz.prog (invoke (.fn (.method "Measure") #[]) (#[(.iface 93 (.agg (Cells.vals c93 x8).toArray))] ++ #[])) (.one (.agg c91)) fun (x9 : (Int × Int × Int × Bool × Bool × Unit)) =>
 nn (some (at0 b7)) fun p10 =>
 aggSt (p10.add 11) (.agg (Cells.vals c91 x9).toArray) 5 <|
 join (S := Unit) (fun J11 =>
 sif (!(Option.isNone a0)) (
 drew <|
 nn a0 fun p13 =>
 lds c91 (p13.add 11) fun (x14 : (Int × Int × Int × Bool × Bool × Unit)) =>
 nn (some (at0 b7)) fun p15 =>
 lds c91 (p15.add 11) fun (x16 : (Int × Int × Int × Bool × Bool × Unit)) =>
 callX Tryz.prog (invoke (.fn (.method "Add") #[]) (#[(.iface 91 (.agg (Cells.vals c91 x14).toArray))] ++ #[(.agg (Cells.vals c91 x16).toArray)])) (.one (.agg c91)) fun (x17 : (Int × Int × Int × Bool × Bool × Unit)) =>
 nn (some (at0 b7)) fun p18 =>
 aggSt (p18.add 11) (.agg (Cells.vals c91 x17).toArray) 5 <|
 J11 ()) (
 J11 ())) fun (s12 : Unit) =>
 join (S := Unit) (fun J19 =>
 sif (!(Option.isNone a2)) (
 drew <|
 nn (some (at0 b7)) fun p21 =>
 lds c91 (p21.add 11) fun (x22 : (Int × Int × Int × Bool × Bool × Unit)) =>
 nn a2 fun p23 =>
 lds c91 (p23.add 11) fun (x24 : (Int × Int × Int × Bool × Bool × Unit)) =>
 callX Tryz.prog (invoke (.fn (.method "Add") #[]) (#[(.iface 91 (.agg (Cells.vals c91 x22).toArray))] ++ #[(.agg (Cells.vals c91 x24).toArray)])) (.one (.agg c91)) fun (x25 : (Int × Int × Int × Bool × Bool × Unit)) =>
 nn (some (at0 b7)) fun p26 =>
 aggSt (p26.add 11) (.agg (Cells.vals c91 x25).toArray) 5 <|
 J19 ()) (
 J19 ())) fun (s20 : Unit) =>
 K (some (at0 b7))
noncomputable def h129 : Hint := (hS (hR 2) (hS (.region [0, 1, 2, 3, 6, 9, 11, 4, 5, 7, 8, 10, 12, 13, 14, 15, 16, 17] (hO 18)) (hS (hR 7) (hJ (70366596694016, []) (hS (hR 2) (hC (.region [0, 1, 2, 3, 4, 5, 6, 7, 8, 9, 10, 11, 12, 13] (hO 14)) hL)) (hJ (2305772640469516288, []) (hS (hR 2) (hC (.region [0, 1, 2, 3, 4, 5, 6, 7, 8, 9, 10, 11, 12, 13] (hO 14)) hL)) (hS (hR 2) hL))))))
theorem F129_calls {a0 : Option Addr} {a1 : (Sl × Int × Int × Int × Int × Bool × Bool × Unit)} {a2 : Option Addr} {K : Option Addr → World → Prop} {w : World} (h : F129 a0 a1 a2 K w) : callT Tryz.prog 129 #[(.pointer a0), (.agg (Cells.vals c93 a1).toArray), (.pointer a2)] (.one (.one .ptr)) K w := tied tabOk Tryz.func129 h129 [(.pointer a0), (.agg (Cells.vals c93 a1).toArray), (.pointer a2)] h
noncomputable def F135 (a0 : Value) (v0 : Addr) (v1 : Addr) (K : Unit → World → Prop) : World → Prop :=
 chk (oneAll [a0] = true) <|
 newO (.cells #[a0] 154) fun b1 =>
 newO (.cells #[.nilFunc] 155) fun b2 =>
 chk (isOne (.func (Fn.func 136) #[] #[(.pointer (some (at0 b2))), (.pointer (some (at0 b1)))]) = true) <|
 stC (at0 b2) (.func (Fn.func 136) #[] #[(.pointer (some (at0 b2))), (.pointer (some (at0 b1)))]) <|
 ld (.any) (at0 b2) fun (x3 : Value) =>
 ld (.ptr) v0 fun (x4 : Option Addr) =>
 ld (.int .i64) v1 fun (x5 : Int) =>
 callX Tryz.prog (do let d ← Deferred.ofValue x3 #[(.pointer x4), (.int .i64 (if x5 > (0 : Int) then x5 else (0 : Int)))]; invoke d.target d.args : Sem Next) (.one (.one .bool)) fun (x6 : Bool) =>
 K ()
noncomputable def h135 : Hint := (hS (hR 1) (hS (hR 1) (hS (hR 2) (hR 6))))
theorem F135_calls {a0 : Value} {v0 : Addr} {v1 : Addr} {K : Unit → World → Prop} {w : World} (h : F135 a0 v0 v1 K w) : callT Tryz.prog 135 #[a0, (.pointer (some v0)), (.pointer (some v1))] (.tup []) K w := tied tabOk Tryz.func135 h135 [a0, (.pointer (some v0)), (.pointer (some v1))] h
noncomputable def F136 (a0 : Option Addr) (a1 : Int) (v0 : Addr) (v1 : Addr) (K : Bool → World → Prop) : World → Prop :=
 join (S := Bool × Unit) (fun J1 =>
 sif (Option.isNone a0) (
 J1 (true, ())) (
 nn a0 fun p3 =>
 ld (.int .i64) (p3.add 9) fun (x4 : Int) =>
 J1 ((decide (a1 ≥ x4)), ()))) fun (s2 : Bool × Unit) =>
 sif s2.1 (
 K true) (
 nn a0 fun p5 =>
 ld (.ptr) p5 fun (x6 : Option Addr) =>
 callT Tryz.prog 137 #[(.pointer x6)] (.one (.one (.int .i64))) fun (x7 : Int) =>
 join (S := Bool × Unit) (fun J8 =>
 drew <|
 sif (decide (a1 < x7)) (
 ld (.any) v0 fun (x10 : Value) =>
 nn a0 fun p11 =>
 ld (.ptr) p11 fun (x12 : Option Addr) =>
 callX Tryz.prog (do let d ← Deferred.ofValue x10 #[(.pointer x12), (.int .i64 a1)]; invoke d.target d.args : Sem Next) (.one (.one .bool)) fun (x13 : Bool) =>
 J8 ((!x13), ())) (
 J8 (false, ()))) fun (s9 : Bool × Unit) =>
 sif s9.1 (
 K false) (
 join (S := Bool × Unit) (fun J14 =>
 drew <|
 sif (decide (a1 ≤ x7)) (
 ld (.any) v1 fun (x16 : Value) =>
 nn a0 fun p17 =>
 lds c93 (p17.add 2) fun (x18 : (Sl × Int × Int × Int × Int × Bool × Bool × Unit)) =>
 callX Tryz.prog (do let d ← Deferred.ofValue x16 #[(.agg (Cells.vals c93 x18).toArray)]; invoke d.target d.args : Sem Next) (.one (.one .bool)) fun (x19 : Bool) =>
 J14 ((!x19), ())) (
 J14 (false, ()))) fun (s15 : Bool × Unit) =>
 sif s15.1 (
 K false) (
 drew <|
 ld (.any) v0 fun (x20 : Value) =>
 nn a0 fun p21 =>
 ld (.ptr) (p21.add 1) fun (x22 : Option Addr) =>
 callX Tryz.prog (do let d ← Deferred.ofValue x20 #[(.pointer x22), (.int .i64 (if (IntKind.wrap .i64 ((IntKind.wrap .i64 (a1 - x7)) - (1 : Int))) > (0 : Int) then (IntKind.wrap .i64 ((IntKind.wrap .i64 (a1 - x7)) - (1 : Int))) else (0 : Int)))]; invoke d.target d.args : Sem Next) (.one (.one .bool)) fun (x23 : Bool) =>
 K x23)))
noncomputable def h136 : Hint := (hS (hR 1) (hS (hJ (261888, [(17, tB)]) (.region [] (.ops 3 (.split 10 (.skips 6 (hO 1)) (hO 7)))) (hC (hS (hR 1) hL) hL)) (hS (hR 6) (hS (hJ (68711088128, [(35, tB)]) (.region [0, 1, 2, 3, 4, 5, 6, 7, 8, 9, 10, 11, 12] (.ops 4 (.split 26 (hO 9) (.skips 8 (hO 1))))) (hC (hS (hR 1) hL) hL)) (hS (hJ (281406257233920, [(47, tB)]) (.region [0, 1, 2, 3, 4, 5, 6, 7, 8, 9, 10, 11] (.ops 4 (.split 39 (hO 8) (.skips 7 (hO 1))))) (hC (hS (hR 1) hL) hL)) (hS (.region [0, 1, 2, 3, 4, 5, 6, 7, 8, 9, 10, 11] (hO 12)) hL))))))
theorem F136_calls {a0 : Option Addr} {a1 : Int} {v0 : Addr} {v1 : Addr} {K : Bool → World → Prop} {w : World} (h : F136 a0 a1 v0 v1 K w) : callT Tryz.prog 136 #[(.pointer a0), (.int .i64 a1), (.pointer (some v0)), (.pointer (some v1))] (.one (.one .bool)) K w := tied tabOk Tryz.func136 h136 [(.pointer a0), (.int .i64 a1), (.pointer (some v0)), (.pointer (some v1))] h
noncomputable def F137 (a0 : Option Addr) (K : Int → World → Prop) : World → Prop :=
 sif (Option.isNone a0) (
 K (0 : Int)) (
 nn a0 fun p1 =>
 ld (.int .i64) (p1.add 9) fun (x2 : Int) =>
 K x2)
noncomputable def h137 : Hint := (hS (hR 1) (hS (hS (hR 2) (hC (hS (hR 1) hL) hL)) (hS (hR 5) hL)))
theorem F137_calls {a0 : Option Addr} {K : Int → World → Prop} {w : World} (h : F137 a0 K w) : callT Tryz.prog 137 #[(.pointer a0)] (.one (.one (.int .i64))) K w := tied tabOk Tryz.func137 h137 [(.pointer a0)] h
noncomputable def F145 (v0 : Addr) (v1 : Addr) (v2 : Addr) (v3 : Addr) (K : Unit → World → Prop) : World → Prop :=
 ld (.ptr) v0 fun (x1 : Option Addr) =>
 nn x1 fun p2 =>
 ld (.sl) (p2.add 3) fun (x3 : Sl) =>
 ld (.int .i64) v1 fun (x4 : Int) =>
 sif (decide (((x3.len : Nat) : Int) > x4)) (
 drew <|
 ld (.sl) v2 fun (x5 : Sl) =>
 ld (.ptr) v0 fun (x6 : Option Addr) =>
 nn x6 fun p7 =>
 ld (.int .i64) p7 fun (x8 : Int) =>
 ld (.ptr) v0 fun (x9 : Option Addr) =>
 nn x9 fun p10 =>
 ld (.sl) (p10.add 3) fun (x11 : Sl) =>
 ld (.int .i64) v1 fun (x12 : Int) =>
 slc x11.a x12 ((x3.len : Nat) : Int) ((x3.len : Nat) : Int) x11.cap 1 fun x13 =>
 callT Tryz.prog 54 #[(.int .i64 x8), (.slice x13.a x13.len x13.cap), (.int .i64 (-1 : Int))] (.one (.agg c93)) fun (x14 : (Sl × Int × Int × Int × Int × Bool × Bool × Unit)) =>
 keep (fun w => w.cell? v2 = some (Cell.val (.sl) x5)) <|
 newO (.cells #[(.slice x14.1.a x14.1.len x14.1.cap), (.int .i64 x14.2.1), (.int .i64 x14.2.2.1), (.int .i64 x14.2.2.2.1), (.int .i64 x14.2.2.2.2.1), (.bool x14.2.2.2.2.2.1), (.bool x14.2.2.2.2.2.2.1)] 93) fun b15 =>
 keep (fun w => w.cell? v2 = some (Cell.val (.sl) x5)) <|
 rawT Tryz.prog (.one (.one .sl)) (Builtin.append_ #[87, 87] 87 #[(.slice x5.a x5.len x5.cap), (.slice (some (at0 b15)) 1 1)]) fun (x16 : Sl) =>
 stC v2 (.slice x16.a x16.len x16.cap) <|
 stC v1 (.int .i64 ((x3.len : Nat) : Int)) <|
 stC v3 (.int .i64 (0 : Int)) <|
 K ()) (
 K ())
noncomputable def h145 : Hint := (hS (hR 6) (hS (hR 3) (hC (hS (.region [0, 1, 2, 3, 4, 5, 6, 7, 8, 9, 10, 11, 12, 13, 14, 15, 16] (hO 17)) (hR 3)) hL)))
theorem F145_calls {v0 : Addr} {v1 : Addr} {v2 : Addr} {v3 : Addr} {K : Unit → World → Prop} {w : World} (h : F145 v0 v1 v2 v3 K w) : callT Tryz.prog 145 #[(.pointer (some v0)), (.pointer (some v1)), (.pointer (some v2)), (.pointer (some v3))] (.tup []) K w := tied tabOk Tryz.func145 h145 [(.pointer (some v0)), (.pointer (some v1)), (.pointer (some v2)), (.pointer (some v3))] h
noncomputable def F146 (a0 : Int) (a1 : Sl) (K : (Sl × Int × Int × Unit) → World → Prop) : World → Prop :=
 callT Tryz.prog 92 #[(.int .i64 a0)] (.one (.one .any)) fun (x1 : Value) =>
 rdB Tryz.prog (do eqGuard .eql 118 (Operand.tmp 13) (Operand.const Value.nilIface) x1 .nilIface; binOp .eql 118 x1 .nilIface : Sem Value) fun r2 =>
 sif r2 (
 K (⟨none, 0, 0⟩, (0 : Int), (10 : Int), ())) (
 join (S := Sl × Unit) (fun J3 =>
 sloop (S := Sl × Int × Unit) (fun (s5 : Sl × Int × Unit) again6 =>
 sif (decide (s5.2.1 < ((a1.len : Nat) : Int))) (
 ix a1.a a1.len s5.2.1 fun p7 =>
 ld (.int .i64) (p7.add (scaled (Int.toNat s5.2.1) 1)) fun (x8 : Int) =>
 callX Tryz.prog (invoke (.fn (.method "copyist/codec.size") #[]) (#[x1] ++ #[(.int .i64 x8)])) (.one (.one (.int .i64))) fun (x9 : Int) =>
 sif (x9 == (0 : Int)) (
 K (⟨none, 0, 0⟩, s5.2.1, (11 : Int), ())) (
 callX Tryz.prog (invoke (.fn (.method "copyist/codec.put") #[]) (#[x1] ++ #[(.slice s5.1.a s5.1.len s5.1.cap), (.int .i64 x8)])) (.one (.one .sl)) fun (x10 : Sl) =>
 again6 (x10, (IntKind.wrap .i64 (s5.2.1 + (1 : Int))), ()))) (
 J3 (s5.1, ()))) (⟨none, 0, 0⟩, (0 : Int), ())) fun (s4 : Sl × Unit) =>
 K (s4.1, (0 : Int), (0 : Int), ()))
noncomputable def h146 : Hint := (hS (hR 3) (hS (hR 3) (hS (hS (hR 2) (hC (hS (hR 3) hL) hL)) (hS (hR 1) (hJ (4294936432, [(8, tS)]) (hS (hR 3) (.block (.loop 4294838128 [(8, tS), (17, tI)] (hS (hR 1) (hS (hC hL hL) (hS (.block (hS (hR 5) (hS (hS (hR 4) (hC (hS (hR 4) hL) hL)) (hR 5)))) (hR 2))))))) (hS (hR 4) hL))))))
theorem F146_calls {a0 : Int} {a1 : Sl} {K : (Sl × Int × Int × Unit) → World → Prop} {w : World} (h : F146 a0 a1 K w) : callT Tryz.prog 146 #[(.int .i64 a0), (.slice a1.a a1.len a1.cap)] (.tup [(.one .sl), (.one (.int .i64)), (.one (.int .i64))]) K w := tied tabOk Tryz.func146 h146 [(.int .i64 a0), (.slice a1.a a1.len a1.cap)] h
noncomputable def F147 (a0 : Option Addr) (a1 : Int) (K : (Option Addr × Option Addr × Unit) → World → Prop) : World → Prop :=
 sif (Option.isNone a0) (
 K (none, none, ())) (
 nn a0 fun p1 =>
 ld (.ptr) p1 fun (x2 : Option Addr) =>
 callT Tryz.prog 137 #[(.pointer x2)] (.one (.one (.int .i64))) fun (x3 : Int) =>
 sif (decide (a1 ≤ x3)) (
 nn a0 fun p4 =>
 ld (.ptr) p4 fun (x5 : Option Addr) =>
 callT Tryz.prog 147 #[(.pointer x5), (.int .i64 a1)] (.tup [(.one .ptr), (.one .ptr)]) fun (x6 : (Option Addr × Option Addr × Unit)) =>
 drew <|
 nn a0 fun p7 =>
 lds c93 (p7.add 2) fun (x8 : (Sl × Int × Int × Int × Int × Bool × Bool × Unit)) =>
 nn a0 fun p9 =>
 ld (.ptr) (p9.add 1) fun (x10 : Option Addr) =>
 callT Tryz.prog 159 #[(.pointer x6.2.1), (.agg (Cells.vals c93 x8).toArray), (.pointer x10)] (.one (.one .ptr)) fun (x11 : Option Addr) =>
 K (x6.1, x11, ())) (
 nn a0 fun p12 =>
 ld (.ptr) (p12.add 1) fun (x13 : Option Addr) =>
 callT Tryz.prog 147 #[(.pointer x13), (.int .i64 (IntKind.wrap .i64 ((IntKind.wrap .i64 (a1 - x3)) - (1 : Int))))] (.tup [(.one .ptr), (.one .ptr)]) fun (x14 : (Option Addr × Option Addr × Unit)) =>
 drew <|
 nn a0 fun p15 =>
 ld (.ptr) p15 fun (x16 : Option Addr) =>
 nn a0 fun p17 =>
 lds c93 (p17.add 2) fun (x18 : (Sl × Int × Int × Int × Int × Bool × Bool × Unit)) =>
 callT Tryz.prog 159 #[(.pointer x16), (.agg (Cells.vals c93 x18).toArray), (.pointer x14.1)] (.one (.one .ptr)) fun (x19 : Option Addr) =>
 K (x19, x14.2.1, ())))
noncomputable def h147 : Hint := (hS (hR 2) (hS (hS (hR 2) (hC (hS (hR 2) hL) hL)) (hS (hR 6) (hS (hR 3) (hC (hS (hR 11) (hS (.region [0, 1, 2, 3, 4, 5, 6, 7, 8, 9, 10, 11, 12] (hO 13)) hL)) (hS (hR 14) (hS (.region [0, 1, 2, 3, 4, 5, 6, 7, 8, 10, 9, 11, 12] (hO 13)) hL)))))))
theorem F147_calls {a0 : Option Addr} {a1 : Int} {K : (Option Addr × Option Addr × Unit) → World → Prop} {w : World} (h : F147 a0 a1 K w) : callT Tryz.prog 147 #[(.pointer a0), (.int .i64 a1)] (.tup [(.one .ptr), (.one .ptr)]) K w := tied tabOk Tryz.func147 h147 [(.pointer a0), (.int .i64 a1)] h
noncomputable def F148 (a0 : Option Addr) (a1 : Option Addr) (K : Option Addr → World → Prop) : World → Prop :=
 sif (Option.isNone a1) (
 K a0) (
 callT Tryz.prog 160 #[(.pointer a1)] (.tup [(.agg c93), (.one .ptr)]) fun (x1 : ((Sl × Int × Int × Int × Int × Bool × Bool × Unit) × Option Addr × Unit)) =>
 newO (.cells #[(.slice none 0 0), (.int .i64 (0 : Int)), (.int .i64 (0 : Int)), (.int .i64 (0 : Int)), (.int .i64 (0 : Int)), (.bool false), (.bool false)] 93) fun b2 =>
 aggSt (at0 b2) (.agg (Cells.vals c93 x1.1).toArray) 7 <|
 lds c93 (at0 b2) fun (x3 : (Sl × Int × Int × Int × Int × Bool × Bool × Unit)) =>
 callT Tryz.prog 159 #[(.pointer a0), (.agg (Cells.vals c93 x3).toArray), (.pointer x1.2.1)] (.one (.one .ptr)) fun (x4 : Option Addr) =>
 K x4)
noncomputable def h148 : Hint := (hS (hR 1) (hS (hS (hR 2) (hC (hS (hR 2) hL) hL)) (hS (hR 8) (hS (hR 5) hL))))
theorem F148_calls {a0 : Option Addr} {a1 : Option Addr} {K : Option Addr → World → Prop} {w : World} (h : F148 a0 a1 K w) : callT Tryz.prog 148 #[(.pointer a0), (.pointer a1)] (.one (.one .ptr)) K w := tied tabOk Tryz.func148 h148 [(.pointer a0), (.pointer a1)] h
noncomputable def F152 (a0 : Option Addr) (K : Int → World → Prop) : World → Prop :=
 sif (Option.isNone a0) (
 K (0 : Int)) (
 nn a0 fun p1 =>
 ld (.int .i64) (p1.add 10) fun (x2 : Int) =>
 K x2)
noncomputable def h152 : Hint := (hS (hR 1) (hS (hS (hR 2) (hC (hS (hR 1) hL) hL)) (hS (hR 5) hL)))
theorem F152_calls {a0 : Option Addr} {K : Int → World → Prop} {w : World} (h : F152 a0 K w) : callT Tryz.prog 152 #[(.pointer a0)] (.one (.one (.int .i64))) K w := tied tabOk Tryz.func152 h152 [(.pointer a0)] h
noncomputable def F159 (a0 : Option Addr) (a1 : (Sl × Int × Int × Int × Int × Bool × Bool × Unit)) (a2 : Option Addr) (K : Option Addr → World → Prop) : World → Prop :=
 newO (.cells #[(.slice a1.1.a a1.1.len a1.1.cap), (.int .i64 a1.2.1), (.int .i64 a1.2.2.1), (.int .i64 a1.2.2.2.1), (.int .i64 a1.2.2.2.2.1), (.bool a1.2.2.2.2.2.1), (.bool a1.2.2.2.2.2.2.1)] 93) fun b1 =>
 callT Tryz.prog 152 #[(.pointer a0)] (.one (.one (.int .i64))) fun (x2 : Int) =>
 callT Tryz.prog 152 #[(.pointer a2)] (.one (.one (.int .i64))) fun (x3 : Int) =>
 sif (decide (x2 > (IntKind.wrap .i64 (x3 + (1 : Int))))) (
 drew <|
 nn a0 fun p4 =>
 ld (.ptr) p4 fun (x5 : Option Addr) =>
 nn a0 fun p6 =>
 lds c93 (p6.add 2) fun (x7 : (Sl × Int × Int × Int × Int × Bool × Bool × Unit)) =>
 nn a0 fun p8 =>
 ld (.ptr) (p8.add 1) fun (x9 : Option Addr) =>
 lds c93 (at0 b1) fun (x10 : (Sl × Int × Int × Int × Int × Bool × Bool × Unit)) =>
 callT Tryz.prog 159 #[(.pointer x9), (.agg (Cells.vals c93 x10).toArray), (.pointer a2)] (.one (.one .ptr)) fun (x11 : Option Addr) =>
 keep (fun w => cellsAt w (p6.add 2) 0 (Cells.vals c93 x7)) <|
 keep (fun w => w.cell? p4 = some (Cell.val (.ptr) x5)) <|
 callT Tryz.prog 162 #[(.pointer x5), (.agg (Cells.vals c93 x7).toArray), (.pointer x11)] (.one (.one .ptr)) fun (x12 : Option Addr) =>
 K x12) (
 callT Tryz.prog 152 #[(.pointer a2)] (.one (.one (.int .i64))) fun (x13 : Int) =>
 callT Tryz.prog 152 #[(.pointer a0)] (.one (.one (.int .i64))) fun (x14 : Int) =>
 sif (decide (x13 > (IntKind.wrap .i64 (x14 + (1 : Int))))) (
 drew <|
 lds c93 (at0 b1) fun (x15 : (Sl × Int × Int × Int × Int × Bool × Bool × Unit)) =>
 nn a2 fun p16 =>
 ld (.ptr) p16 fun (x17 : Option Addr) =>
 nn a2 fun p18 =>
 lds c93 (p18.add 2) fun (x19 : (Sl × Int × Int × Int × Int × Bool × Bool × Unit)) =>
 nn a2 fun p20 =>
 ld (.ptr) (p20.add 1) fun (x21 : Option Addr) =>
 callT Tryz.prog 159 #[(.pointer a0), (.agg (Cells.vals c93 x15).toArray), (.pointer x17)] (.one (.one .ptr)) fun (x22 : Option Addr) =>
 keep (fun w => w.cell? (p20.add 1) = some (Cell.val (.ptr) x21)) <|
 keep (fun w => cellsAt w (p18.add 2) 0 (Cells.vals c93 x19)) <|
 callT Tryz.prog 162 #[(.pointer x22), (.agg (Cells.vals c93 x19).toArray), (.pointer x21)] (.one (.one .ptr)) fun (x23 : Option Addr) =>
 K x23) (
 lds c93 (at0 b1) fun (x24 : (Sl × Int × Int × Int × Int × Bool × Bool × Unit)) =>
 callT Tryz.prog 129 #[(.pointer a0), (.agg (Cells.vals c93 x24).toArray), (.pointer a2)] (.one (.one .ptr)) fun (x25 : Option Addr) =>
 K x25))
noncomputable def h159 : Hint := (hS (hR 2) (hS (.block (hS (hR 7) (hC (hS (.region [0, 1, 2, 3, 4, 5, 6, 7, 8, 9, 10, 11, 12, 13, 14, 15, 16] (hO 17)) hL) (hS (hR 7) (hC (hS (.region [0, 1, 2, 3, 4, 5, 7, 8, 9, 10, 11, 12, 13, 14, 6, 15, 16] (hO 17)) hL) hL))))) (hS (hR 5) hL)))
theorem F159_calls {a0 : Option Addr} {a1 : (Sl × Int × Int × Int × Int × Bool × Bool × Unit)} {a2 : Option Addr} {K : Option Addr → World → Prop} {w : World} (h : F159 a0 a1 a2 K w) : callT Tryz.prog 159 #[(.pointer a0), (.agg (Cells.vals c93 a1).toArray), (.pointer a2)] (.one (.one .ptr)) K w := tied tabOk Tryz.func159 h159 [(.pointer a0), (.agg (Cells.vals c93 a1).toArray), (.pointer a2)] h
noncomputable def F160 (a0 : Option Addr) (K : ((Sl × Int × Int × Int × Int × Bool × Bool × Unit) × Option Addr × Unit) → World → Prop) : World → Prop :=
 newO (.cells #[(.slice none 0 0), (.int .i64 (0 : Int)), (.int .i64 (0 : Int)), (.int .i64 (0 : Int)), (.int .i64 (0 : Int)), (.bool false), (.bool false)] 93) fun b1 =>
 nn a0 fun p2 =>
 ld (.ptr) p2 fun (x3 : Option Addr) =>
 sif (Option.isNone x3) (
 drew <|
 nn a0 fun p4 =>
 lds c93 (p4.add 2) fun (x5 : (Sl × Int × Int × Int × Int × Bool × Bool × Unit)) =>
 nn a0 fun p6 =>
 ld (.ptr) (p6.add 1) fun (x7 : Option Addr) =>
 aggSt (at0 b1) (.agg (Cells.vals c93 x5).toArray) 7 <|
 keep (fun w => w.cell? (p6.add 1) = some (Cell.val (.ptr) x7)) <|
 lds c93 (at0 b1) fun (x8 : (Sl × Int × Int × Int × Int × Bool × Bool × Unit)) =>
 K (x8, x7, ())) (
 nn a0 fun p9 =>
 ld (.ptr) p9 fun (x10 : Option Addr) =>
 callT Tryz.prog 160 #[(.pointer x10)] (.tup [(.agg c93), (.one .ptr)]) fun (x11 : ((Sl × Int × Int × Int × Int × Bool × Bool × Unit) × Option Addr × Unit)) =>
 newO (.cells #[(.slice none 0 0), (.int .i64 (0 : Int)), (.int .i64 (0 : Int)), (.int .i64 (0 : Int)), (.int .i64 (0 : Int)), (.bool false), (.bool false)] 93) fun b12 =>
 aggSt (at0 b12) (.agg (Cells.vals c93 x11.1).toArray) 7 <|
 drew <|
 lds c93 (at0 b12) fun (x13 : (Sl × Int × Int × Int × Int × Bool × Bool × Unit)) =>
 nn a0 fun p14 =>
 lds c93 (p14.add 2) fun (x15 : (Sl × Int × Int × Int × Int × Bool × Bool × Unit)) =>
 nn a0 fun p16 =>
 ld (.ptr) (p16.add 1) fun (x17 : Option Addr) =>
 callT Tryz.prog 162 #[(.pointer x11.2.1), (.agg (Cells.vals c93 x15).toArray), (.pointer x17)] (.one (.one .ptr)) fun (x18 : Option Addr) =>
 keep (fun w => cellsAt w (at0 b12) 0 (Cells.vals c93 x13)) <|
 aggSt (at0 b1) (.agg (Cells.vals c93 x13).toArray) 7 <|
 lds c93 (at0 b1) fun (x19 : (Sl × Int × Int × Int × Int × Bool × Bool × Unit)) =>
 K (x19, x18, ()))
noncomputable def h160 : Hint := (hS (hR 2) (hS (hS (hR 5) (hC (hS (.region [0, 1, 2, 3, 4, 5, 6, 7, 8, 9] (hO 10)) hL) hL)) (hS (hR 11) (hS (.region [0, 1, 2, 3, 4, 5, 6, 7, 8, 9, 10, 11, 12] (hO 13)) hL))))
theorem F160_calls {a0 : Option Addr} {K : ((Sl × Int × Int × Int × Int × Bool × Bool × Unit) × Option Addr × Unit) → World → Prop} {w : World} (h : F160 a0 K w) : callT Tryz.prog 160 #[(.pointer a0)] (.tup [(.agg c93), (.one .ptr)]) K w := tied tabOk Tryz.func160 h160 [(.pointer a0)] h
noncomputable def F162 (a0 : Option Addr) (a1 : (Sl × Int × Int × Int × Int × Bool × Bool × Unit)) (a2 : Option Addr) (K : Option Addr → World → Prop) : World → Prop :=
 newO (.cells #[(.slice a1.1.a a1.1.len a1.1.cap), (.int .i64 a1.2.1), (.int .i64 a1.2.2.1), (.int .i64 a1.2.2.2.1), (.int .i64 a1.2.2.2.2.1), (.bool a1.2.2.2.2.2.1), (.bool a1.2.2.2.2.2.2.1)] 93) fun b1 =>
 callT Tryz.prog 152 #[(.pointer a0)] (.one (.one (.int .i64))) fun (x2 : Int) =>
 callT Tryz.prog 152 #[(.pointer a2)] (.one (.one (.int .i64))) fun (x3 : Int) =>
 sif (decide (x2 > (IntKind.wrap .i64 (x3 + (1 : Int))))) (
 drew <|
 nn a0 fun p4 =>
 ld (.ptr) p4 fun (x5 : Option Addr) =>
 nn a0 fun p6 =>
 ld (.ptr) (p6.add 1) fun (x7 : Option Addr) =>
 callT Tryz.prog 152 #[(.pointer x5)] (.one (.one (.int .i64))) fun (x8 : Int) =>
 keep (fun w => w.cell? (p6.add 1) = some (Cell.val (.ptr) x7)) <|
 callT Tryz.prog 152 #[(.pointer x7)] (.one (.one (.int .i64))) fun (x9 : Int) =>
 sif (decide (x8 ≥ x9)) (
 drew <|
 nn a0 fun p10 =>
 ld (.ptr) p10 fun (x11 : Option Addr) =>
 nn a0 fun p12 =>
 lds c93 (p12.add 2) fun (x13 : (Sl × Int × Int × Int × Int × Bool × Bool × Unit)) =>
 nn a0 fun p14 =>
 ld (.ptr) (p14.add 1) fun (x15 : Option Addr) =>
 lds c93 (at0 b1) fun (x16 : (Sl × Int × Int × Int × Int × Bool × Bool × Unit)) =>
 callT Tryz.prog 129 #[(.pointer x15), (.agg (Cells.vals c93 x16).toArray), (.pointer a2)] (.one (.one .ptr)) fun (x17 : Option Addr) =>
 keep (fun w => cellsAt w (p12.add 2) 0 (Cells.vals c93 x13)) <|
 keep (fun w => w.cell? p10 = some (Cell.val (.ptr) x11)) <|
 callT Tryz.prog 129 #[(.pointer x11), (.agg (Cells.vals c93 x13).toArray), (.pointer x17)] (.one (.one .ptr)) fun (x18 : Option Addr) =>
 K x18) (
 nn a0 fun p19 =>
 ld (.ptr) (p19.add 1) fun (x20 : Option Addr) =>
 drew <|
 nn a0 fun p21 =>
 ld (.ptr) p21 fun (x22 : Option Addr) =>
 nn a0 fun p23 =>
 lds c93 (p23.add 2) fun (x24 : (Sl × Int × Int × Int × Int × Bool × Bool × Unit)) =>
 nn x20 fun p25 =>
 ld (.ptr) p25 fun (x26 : Option Addr) =>
 nn x20 fun p27 =>
 lds c93 (p27.add 2) fun (x28 : (Sl × Int × Int × Int × Int × Bool × Bool × Unit)) =>
 nn x20 fun p29 =>
 ld (.ptr) (p29.add 1) fun (x30 : Option Addr) =>
 lds c93 (at0 b1) fun (x31 : (Sl × Int × Int × Int × Int × Bool × Bool × Unit)) =>
 callT Tryz.prog 129 #[(.pointer x22), (.agg (Cells.vals c93 x24).toArray), (.pointer x26)] (.one (.one .ptr)) fun (x32 : Option Addr) =>
 keep (fun w => cellsAt w (at0 b1) 0 (Cells.vals c93 x31)) <|
 keep (fun w => w.cell? (p29.add 1) = some (Cell.val (.ptr) x30)) <|
 keep (fun w => cellsAt w (p27.add 2) 0 (Cells.vals c93 x28)) <|
 callT Tryz.prog 129 #[(.pointer x30), (.agg (Cells.vals c93 x31).toArray), (.pointer a2)] (.one (.one .ptr)) fun (x33 : Option Addr) =>
 keep (fun w => cellsAt w (p27.add 2) 0 (Cells.vals c93 x28)) <|
 callT Tryz.prog 129 #[(.pointer x32), (.agg (Cells.vals c93 x28).toArray), (.pointer x33)] (.one (.one .ptr)) fun (x34 : Option Addr) =>
 K x34)) (
 callT Tryz.prog 152 #[(.pointer a2)] (.one (.one (.int .i64))) fun (x35 : Int) =>
 callT Tryz.prog 152 #[(.pointer a0)] (.one (.one (.int .i64))) fun (x36 : Int) =>
 sif (decide (x35 > (IntKind.wrap .i64 (x36 + (1 : Int))))) (
 drew <|
 nn a2 fun p37 =>
 ld (.ptr) (p37.add 1) fun (x38 : Option Addr) =>
 nn a2 fun p39 =>
 ld (.ptr) p39 fun (x40 : Option Addr) =>
 callT Tryz.prog 152 #[(.pointer x38)] (.one (.one (.int .i64))) fun (x41 : Int) =>
 keep (fun w => w.cell? p39 = some (Cell.val (.ptr) x40)) <|
 callT Tryz.prog 152 #[(.pointer x40)] (.one (.one (.int .i64))) fun (x42 : Int) =>
 sif (decide (x41 ≥ x42)) (
 drew <|
 lds c93 (at0 b1) fun (x43 : (Sl × Int × Int × Int × Int × Bool × Bool × Unit)) =>
 nn a2 fun p44 =>
 ld (.ptr) p44 fun (x45 : Option Addr) =>
 nn a2 fun p46 =>
 lds c93 (p46.add 2) fun (x47 : (Sl × Int × Int × Int × Int × Bool × Bool × Unit)) =>
 nn a2 fun p48 =>
 ld (.ptr) (p48.add 1) fun (x49 : Option Addr) =>
 callT Tryz.prog 129 #[(.pointer a0), (.agg (Cells.vals c93 x43).toArray), (.pointer x45)] (.one (.one .ptr)) fun (x50 : Option Addr) =>
 keep (fun w => w.cell? (p48.add 1) = some (Cell.val (.ptr) x49)) <|
 keep (fun w => cellsAt w (p46.add 2) 0 (Cells.vals c93 x47)) <|
 callT Tryz.prog 129 #[(.pointer x50), (.agg (Cells.vals c93 x47).toArray), (.pointer x49)] (.one (.one .ptr)) fun (x51 : Option Addr) =>
 K x51) (
 nn a2 fun p52 =>
 ld (.ptr) p52 fun (x53 : Option Addr) =>
 drew <|
 lds c93 (at0 b1) fun (x54 : (Sl × Int × Int × Int × Int × Bool × Bool × Unit)) =>
 nn x53 fun p55 =>
 ld (.ptr) p55 fun (x56 : Option Addr) =>
 nn x53 fun p57 =>
 lds c93 (p57.add 2) fun (x58 : (Sl × Int × Int × Int × Int × Bool × Bool × Unit)) =>
 nn x53 fun p59 =>
 ld (.ptr) (p59.add 1) fun (x60 : Option Addr) =>
 nn a2 fun p61 =>
 lds c93 (p61.add 2) fun (x62 : (Sl × Int × Int × Int × Int × Bool × Bool × Unit)) =>
 nn a2 fun p63 =>
 ld (.ptr) (p63.add 1) fun (x64 : Option Addr) =>
 callT Tryz.prog 129 #[(.pointer a0), (.agg (Cells.vals c93 x54).toArray), (.pointer x56)] (.one (.one .ptr)) fun (x65 : Option Addr) =>
 keep (fun w => w.cell? (p63.add 1) = some (Cell.val (.ptr) x64)) <|
 keep (fun w => cellsAt w (p61.add 2) 0 (Cells.vals c93 x62)) <|
 keep (fun w => w.cell? (p59.add 1) = some (Cell.val (.ptr) x60)) <|
 keep (fun w => cellsAt w (p57.add 2) 0 (Cells.vals c93 x58)) <|
 callT Tryz.prog 129 #[(.pointer x60), (.agg (Cells.vals c93 x62).toArray), (.pointer x64)] (.one (.one .ptr)) fun (x66 : Option Addr) =>
 keep (fun w => cellsAt w (p57.add 2) 0 (Cells.vals c93 x58)) <|
 callT Tryz.prog 129 #[(.pointer x65), (.agg (Cells.vals c93 x58).toArray), (.pointer x66)] (.one (.one .ptr)) fun (x67 : Option Addr) =>
 K x67)) (
 lds c93 (at0 b1) fun (x68 : (Sl × Int × Int × Int × Int × Bool × Bool × Unit)) =>
 callT Tryz.prog 129 #[(.pointer a0), (.agg (Cells.vals c93 x68).toArray), (.pointer a2)] (.one (.one .ptr)) fun (x69 : Option Addr) =>
 K x69))
noncomputable def h162 : Hint := (hS (hR 2) (hS (.block (hS (hR 7) (hC (hS (hS (.region [0, 1, 2, 3, 5, 6, 7, 8, 4, 9, 10] (hO 11)) (hC (hS (.region [0, 1, 2, 3, 4, 5, 6, 7, 8, 9, 10, 11, 12, 13, 14, 15, 16] (hO 17)) hL) hL)) (hS (hR 5) (hS (.region [0, 1, 2, 3, 4, 5, 6, 7, 8, 9, 10, 11, 13, 14, 15, 16, 17, 18, 19, 20, 21, 22, 12, 23, 24, 25] (hO 26)) hL))) (hS (hR 7) (hC (hS (hS (.region [0, 1, 2, 3, 5, 6, 7, 8, 4, 9, 10] (hO 11)) (hC (hS (.region [0, 1, 2, 3, 4, 5, 7, 8, 9, 10, 11, 12, 13, 14, 6, 15, 16] (hO 17)) hL) hL)) (hS (hR 5) (hS (.region [0, 1, 2, 3, 4, 5, 7, 8, 9, 10, 11, 12, 13, 14, 15, 16, 17, 18, 19, 20, 21, 22, 6, 23, 24, 25] (hO 26)) hL))) hL))))) (hS (hR 5) hL)))
theorem F162_calls {a0 : Option Addr} {a1 : (Sl × Int × Int × Int × Int × Bool × Bool × Unit)} {a2 : Option Addr} {K : Option Addr → World → Prop} {w : World} (h : F162 a0 a1 a2 K w) : callT Tryz.prog 162 #[(.pointer a0), (.agg (Cells.vals c93 a1).toArray), (.pointer a2)] (.one (.one .ptr)) K w := tied tabOk Tryz.func162 h162 [(.pointer a0), (.agg (Cells.vals c93 a1).toArray), (.pointer a2)] h
noncomputable def F182 (a0 : (Int × Int × Int × Bool × Bool × Unit)) (a1 : Int) (K : Int → World → Prop) : World → Prop :=
 newO (.cells #[(.int .i64 a0.1), (.int .i64 a0.2.1), (.int .i64 a0.2.2.1), (.bool a0.2.2.2.1), (.bool a0.2.2.2.2.1)] 91) fun b1 =>
 sif (a1 == (0 : Int)) (
 ld (.int .i64) (at0 b1) fun (x2 : Int) =>
 K x2) (
 sif (a1 == (1 : Int)) (
 ld (.int .i64) (⟨b1, 2, none⟩ : Addr) fun (x3 : Int) =>
 K x3) (
 K (0 : Int)))
noncomputable def h182 : Hint := (hS (hR 2) (hS (hS (hR 1) (.block (hS (hR 2) (hC (hS (hR 3) hL) (hS (hR 2) (hC (hS (hR 3) hL) hL)))))) (hS (hR 1) hL)))
theorem F182_calls {a0 : (Int × Int × Int × Bool × Bool × Unit)} {a1 : Int} {K : Int → World → Prop} {w : World} (h : F182 a0 a1 K w) : callT Tryz.prog 182 #[(.agg (Cells.vals c91 a0).toArray), (.int .i64 a1)] (.one (.one (.int .i64))) K w := tied tabOk Tryz.func182 h182 [(.agg (Cells.vals c91 a0).toArray), (.int .i64 a1)] h
noncomputable def F183 (a0 : (Sl × Int × Int × Int × Int × Bool × Bool × Unit)) (K : (Int × Int × Int × Bool × Bool × Unit) → World → Prop) : World → Prop :=
 newO (.cells #[(.slice a0.1.a a0.1.len a0.1.cap), (.int .i64 a0.2.1), (.int .i64 a0.2.2.1), (.int .i64 a0.2.2.2.1), (.int .i64 a0.2.2.2.2.1), (.bool a0.2.2.2.2.2.1), (.bool a0.2.2.2.2.2.2.1)] 93) fun b1 =>
 newO (.cells #[(.int .i64 (0 : Int)), (.int .i64 (0 : Int)), (.int .i64 (0 : Int)), (.bool false), (.bool false)] 91) fun b2 =>
 lds c91 (⟨b1, 2, none⟩ : Addr) fun (x3 : (Int × Int × Int × Bool × Bool × Unit)) =>
 aggSt (at0 b2) (.agg (Cells.vals c91 x3).toArray) 5 <|
 lds c91 (at0 b2) fun (x4 : (Int × Int × Int × Bool × Bool × Unit)) =>
 K x4
noncomputable def h183 : Hint := (hS (hR 2) (hS (hR 3) hL))
theorem F183_calls {a0 : (Sl × Int × Int × Int × Int × Bool × Bool × Unit)} {K : (Int × Int × Int × Bool × Bool × Unit) → World → Prop} {w : World} (h : F183 a0 K w) : callT Tryz.prog 183 #[(.agg (Cells.vals c93 a0).toArray)] (.one (.agg c91)) K w := tied tabOk Tryz.func183 h183 [(.agg (Cells.vals c93 a0).toArray)] h
noncomputable def F184 (a0 : (Unit)) (a1 : Sl) (K : (Int × Int × Unit) → World → Prop) : World → Prop :=
 newO (.cells #[] 146) fun b1 =>
 callT Tryz.prog 189 #[(.slice a1.a a1.len a1.cap)] (.tup [(.one (.int .i64)), (.one (.int .i64))]) fun (x2 : (Int × Int × Unit)) =>
 join (S := Bool × Unit) (fun J3 =>
 sif (x2.2.1 == (0 : Int)) (
 J3 (true, ())) (
 J3 ((decide (x2.1 < x2.2.1)), ()))) fun (s4 : Bool × Unit) =>
 sif s4.1 (
 ix a1.a a1.len (0 : Int) fun p5 =>
 ld (.int .u8) (p5.add (scaled (Int.toNat (0 : Int)) 1)) fun (x6 : Int) =>
 K ((IntKind.wrap .i64 ((-1 : Int) - (IntKind.wrap .i64 x6))), (1 : Int), ())) (
 ix a1.a a1.len (0 : Int) fun p7 =>
 ld (.int .u8) (p7.add (scaled (Int.toNat (0 : Int)) 1)) fun (x8 : Int) =>
 join (S := Int × Unit) (fun J9 =>
 sif (x2.2.1 == (2 : Int)) (
 J9 ((IntKind.wrap .i64 ((BitVec.toNat (BitVec.ofInt (IntKind.bits .i64) (IntKind.wrap .i64 x8) &&& BitVec.ofInt (IntKind.bits .i64) (31 : Int)) : Nat) : Int)), ())) (
 sif (x2.2.1 == (3 : Int)) (
 J9 ((IntKind.wrap .i64 ((BitVec.toNat (BitVec.ofInt (IntKind.bits .i64) (IntKind.wrap .i64 x8) &&& BitVec.ofInt (IntKind.bits .i64) (15 : Int)) : Nat) : Int)), ())) (
 sif (x2.2.1 == (4 : Int)) (
 J9 ((IntKind.wrap .i64 ((BitVec.toNat (BitVec.ofInt (IntKind.bits .i64) (IntKind.wrap .i64 x8) &&& BitVec.ofInt (IntKind.bits .i64) (7 : Int)) : Nat) : Int)), ())) (
 J9 ((IntKind.wrap .i64 x8), ()))))) fun (s10 : Int × Unit) =>
 join (S := Int × Unit) (fun J11 =>
 slc a1.a (1 : Int) x2.2.1 ((a1.cap : Nat) : Int) a1.cap 1 fun x13 =>
 sloop (S := Int × Int × Unit) (fun (s14 : Int × Int × Unit) again15 =>
 sif (decide (s14.2.1 < ((x13.len : Nat) : Int))) (
 ix x13.a x13.len s14.2.1 fun p16 =>
 ld (.int .u8) (p16.add (scaled (Int.toNat s14.2.1) 1)) fun (x17 : Int) =>
 chk (0 ≤ (6 : Int)) <|
 again15 ((IntKind.wrap .i64 ((BitVec.toNat (BitVec.ofInt (IntKind.bits .i64) (IntKind.wrap .i64 (s14.1 * 2 ^ (min (Int.toNat (6 : Int)) (IntKind.bits .i64)))) ||| BitVec.ofInt (IntKind.bits .i64) (IntKind.wrap .i64 (IntKind.wrap .u8 ((BitVec.toNat (BitVec.ofInt (IntKind.bits .u8) x17 &&& BitVec.ofInt (IntKind.bits .u8) (63 : Int)) : Nat) : Int)))) : Nat) : Int)), (IntKind.wrap .i64 (s14.2.1 + (1 : Int))), ())) (
 J11 (s14.1, ()))) (s10.1, (0 : Int), ())) fun (s12 : Int × Unit) =>
 K (s12.1, x2.2.1, ()))
noncomputable def h184 : Hint := (hS (hR 3) (hS (hR 7) (hS (hJ (8323072, [(22, tB)]) (.region [] (.ops 3 (.split 18 (.skips 3 (hO 1)) (hO 4)))) (hC (hS (hR 7) hL) hL)) (hS (hR 5) (hJ (35180077121792, [(8, tI)]) (hS (hR 1) (.block (hS (hR 2) (hC (hR 3) (hS (hR 2) (hC (hR 3) (hS (hR 2) (hC (hR 3) hL)))))))) (hJ (1152886320234759424, [(8, tI)]) (hS (hR 5) (.block (.loop 1152358554653426944 [(8, tI), (49, tI)] (hS (hR 1) (hS (hC hL hL) (hS (.block (hS (hR 3) (hR 7))) (hR 2))))))) (hS (hR 4) hL)))))))
theorem F184_calls {a0 : (Unit)} {a1 : Sl} {K : (Int × Int × Unit) → World → Prop} {w : World} (h : F184 a0 a1 K w) : callT Tryz.prog 184 #[(.agg (Cells.vals c146 a0).toArray), (.slice a1.a a1.len a1.cap)] (.tup [(.one (.int .i64)), (.one (.int .i64))]) K w := tied tabOk Tryz.func184 h184 [(.agg (Cells.vals c146 a0).toArray), (.slice a1.a a1.len a1.cap)] h
noncomputable def F187 (a0 : (Unit)) (a1 : Sl) (a2 : Int) (K : Sl → World → Prop) : World → Prop :=
 newO (.cells #[] 146) fun b1 =>
 lds c146 (at0 b1) fun (x2 : (Unit)) =>
 callT Tryz.prog 188 #[(.agg (Cells.vals c146 x2).toArray), (.int .i64 a2)] (.one (.one (.int .i64))) fun (x3 : Int) =>
 sif (decide (a2 < (0 : Int))) (
 newO (.cells #[(.int .u8 (IntKind.wrap .u8 (IntKind.wrap .i64 ((-1 : Int) - a2))))] 5) fun b4 =>
 rawT Tryz.prog (.one (.one .sl)) (Builtin.append_ #[22, 22] 22 #[(.slice a1.a a1.len a1.cap), (.slice (some (at0 b4)) 1 1)]) fun (x5 : Sl) =>
 K x5) (
 sif (x3 == (1 : Int)) (
 newO (.cells #[(.int .u8 (IntKind.wrap .u8 a2))] 5) fun b6 =>
 rawT Tryz.prog (.one (.one .sl)) (Builtin.append_ #[22, 22] 22 #[(.slice a1.a a1.len a1.cap), (.slice (some (at0 b6)) 1 1)]) fun (x7 : Sl) =>
 K x7) (
 newO (.cells #[(.int .u8 (0 : Int)), (.int .u8 (0 : Int)), (.int .u8 (0 : Int)), (.int .u8 (0 : Int)), (.int .u8 (0 : Int))] 187) fun b8 =>
 aggSt (at0 b8) (.agg #[(.int .u8 (0 : Int)), (.int .u8 (0 : Int)), (.int .u8 (192 : Int)), (.int .u8 (224 : Int)), (.int .u8 (240 : Int))]) 5 <|
 drew <|
 chk (0 ≤ x3 ∧ x3 < ((5 : Nat) : Int)) <|
 ld (.int .u8) ((at0 b8).add (scaled (Int.toNat x3) 1)) fun (x9 : Int) =>
 chk (0 ≤ (IntKind.wrap .i64 ((6 : Int) * (IntKind.wrap .i64 (x3 - (1 : Int)))))) <|
 newO (.cells #[(.int .u8 (IntKind.wrap .u8 ((BitVec.toNat (BitVec.ofInt (IntKind.bits .u8) x9 ||| BitVec.ofInt (IntKind.bits .u8) (IntKind.wrap .u8 (Int.fdiv a2 (2 ^ (min (Int.toNat (IntKind.wrap .i64 ((6 : Int) * (IntKind.wrap .i64 (x3 - (1 : Int)))))) (IntKind.bits .i64)))))) : Nat) : Int)))] 5) fun b10 =>
 rawT Tryz.prog (.one (.one .sl)) (Builtin.append_ #[22, 22] 22 #[(.slice a1.a a1.len a1.cap), (.slice (some (at0 b10)) 1 1)]) fun (x11 : Sl) =>
 join (S := Sl × Unit) (fun J12 =>
 sloop (S := Sl × Int × Unit) (fun (s14 : Sl × Int × Unit) again15 =>
 sif (decide (s14.2.1 ≥ (0 : Int))) (
 chk (0 ≤ (IntKind.wrap .i64 ((6 : Int) * s14.2.1))) <|
 newO (.cells #[(.int .u8 (IntKind.wrap .u8 ((BitVec.toNat (BitVec.ofInt (IntKind.bits .u8) (128 : Int) ||| BitVec.ofInt (IntKind.bits .u8) (IntKind.wrap .u8 ((BitVec.toNat (BitVec.ofInt (IntKind.bits .u8) (IntKind.wrap .u8 (Int.fdiv a2 (2 ^ (min (Int.toNat (IntKind.wrap .i64 ((6 : Int) * s14.2.1))) (IntKind.bits .i64))))) &&& BitVec.ofInt (IntKind.bits .u8) (63 : Int)) : Nat) : Int))) : Nat) : Int)))] 5) fun b16 =>
 rawT Tryz.prog (.one (.one .sl)) (Builtin.append_ #[22, 22] 22 #[(.slice s14.1.a s14.1.len s14.1.cap), (.slice (some (at0 b16)) 1 1)]) fun (x17 : Sl) =>
 again15 (x17, (IntKind.wrap .i64 (s14.2.1 - (1 : Int))), ())) (
 J12 (s14.1, ()))) (x11, (IntKind.wrap .i64 (x3 - (2 : Int))), ())) fun (s13 : Sl × Unit) =>
 K s13.1))
noncomputable def h187 : Hint := (hS (hR 2) (hS (hR 4) (hS (hS (hR 2) (hC (hS (hR 7) hL) hL)) (hS (hS (hR 2) (hC (hS (hR 6) hL) hL)) (hS (hR 3) (hS (.region [0, 1, 2, 3, 4, 5, 6, 7, 8, 9, 10, 11, 12, 13] (hO 14)) (hJ (288225978105201154, [(1, tS)]) (hS (hR 3) (.block (.loop 288212783965667842 [(1, tS), (9, tI)] (hS (hS (hR 2) (hC hL hL)) (hS (.block (hR 11)) (hR 3)))))) (hS (hR 2) hL))))))))
theorem F187_calls {a0 : (Unit)} {a1 : Sl} {a2 : Int} {K : Sl → World → Prop} {w : World} (h : F187 a0 a1 a2 K w) : callT Tryz.prog 187 #[(.agg (Cells.vals c146 a0).toArray), (.slice a1.a a1.len a1.cap), (.int .i64 a2)] (.one (.one .sl)) K w := tied tabOk Tryz.func187 h187 [(.agg (Cells.vals c146 a0).toArray), (.slice a1.a a1.len a1.cap), (.int .i64 a2)] h
noncomputable def F188 (a0 : (Unit)) (a1 : Int) (K : Int → World → Prop) : World → Prop :=
 newO (.cells #[] 146) fun b1 =>
 join (S := Bool × Unit) (fun J2 =>
 sif (decide (a1 < (-256 : Int))) (
 J2 (true, ())) (
 sif (decide (a1 > (-129 : Int))) (
 sif (decide (a1 < (0 : Int))) (
 J2 (true, ())) (
 sif (decide (a1 > (1114111 : Int))) (
 J2 (true, ())) (
 sif (decide (a1 ≥ (55296 : Int))) (
 J2 ((decide (a1 ≤ (57343 : Int))), ())) (
 J2 (false, ()))))) (
 sif (decide (a1 > (1114111 : Int))) (
 J2 (true, ())) (
 sif (decide (a1 ≥ (55296 : Int))) (
 J2 ((decide (a1 ≤ (57343 : Int))), ())) (
 J2 (false, ())))))) fun (s3 : Bool × Unit) =>
 sif s3.1 (
 K (0 : Int)) (
 sif (decide (a1 < (128 : Int))) (
 K (1 : Int)) (
 sif (decide (a1 < (2048 : Int))) (
 K (2 : Int)) (
 sif (decide (a1 < (65536 : Int))) (
 K (3 : Int)) (
 K (4 : Int)))))
noncomputable def h188 : Hint := (hS (hR 2) (hS (.block (hJ (268435424, [(5, tB)]) (.region [] (.ops 3 (.split 8 (.skips 6 (.ops 2 (.skips 2 (.ops 2 (.skips 6 (hO 2)))))) (.ops 3 (.split 11 (.ops 5 (.split 16 (.skips 2 (.ops 2 (.skips 6 (hO 2)))) (.ops 4 (.split 20 (.skips 6 (hO 2)) (.ops 3 (.split 23 (hO 5) (.skips 2 (hO 3)))))))) (.skips 2 (.ops 7 (.split 20 (.skips 6 (hO 2)) (.ops 3 (.split 23 (hO 5) (.skips 2 (hO 3)))))))))))) (hC (hS (hR 1) hL) (hS (hR 3) (hC (hS (hR 1) hL) (hS (hR 3) (hC (hS (hR 1) hL) (hS (hR 3) (hC (hS (hR 1) hL) hL))))))))) (hS (hR 1) hL)))
theorem F188_calls {a0 : (Unit)} {a1 : Int} {K : Int → World → Prop} {w : World} (h : F188 a0 a1 K w) : callT Tryz.prog 188 #[(.agg (Cells.vals c146 a0).toArray), (.int .i64 a1)] (.one (.one (.int .i64))) K w := tied tabOk Tryz.func188 h188 [(.agg (Cells.vals c146 a0).toArray), (.int .i64 a1)] h
noncomputable def F189 (a0 : Sl) (K : (Int × Int × Unit) → World → Prop) : World → Prop :=
 ix a0.a a0.len (0 : Int) fun p1 =>
 ld (.int .u8) (p1.add (scaled (Int.toNat (0 : Int)) 1)) fun (x2 : Int) =>
 callT Tryz.prog 190 #[(.int .u8 x2)] (.tup [(.one (.int .i64)), (.one (.int .u8)), (.one (.int .u8))]) fun (x3 : (Int × Int × Int × Unit)) =>
 sif (decide (x3.1 < (2 : Int))) (
 K (x3.1, x3.1, ())) (
 join (S := Bool × Unit) (fun J4 =>
 sif (decide (((a0.len : Nat) : Int) < (2 : Int))) (
 J4 (true, ())) (
 ix a0.a a0.len (1 : Int) fun p6 =>
 ld (.int .u8) (p6.add (scaled (Int.toNat (1 : Int)) 1)) fun (x7 : Int) =>
 sif (decide (x7 < x3.2.1)) (
 J4 (true, ())) (
 ix a0.a a0.len (1 : Int) fun p8 =>
 ld (.int .u8) (p8.add (scaled (Int.toNat (1 : Int)) 1)) fun (x9 : Int) =>
 J4 ((decide (x9 > x3.2.2.1)), ())))) fun (s5 : Bool × Unit) =>
 sif s5.1 (
 K ((1 : Int), x3.1, ())) (
 join (S := Int × Unit) (fun J10 =>
 sloop (S := Int × Unit) (fun (s12 : Int × Unit) again13 =>
 join (S := Bool × Unit) (fun J14 =>
 sif (decide (s12.1 < x3.1)) (
 sif (decide (s12.1 < ((a0.len : Nat) : Int))) (
 ix a0.a a0.len s12.1 fun p16 =>
 ld (.int .u8) (p16.add (scaled (Int.toNat s12.1) 1)) fun (x17 : Int) =>
 J14 (((IntKind.wrap .u8 ((BitVec.toNat (BitVec.ofInt (IntKind.bits .u8) x17 &&& BitVec.ofInt (IntKind.bits .u8) (192 : Int)) : Nat) : Int)) == (128 : Int)), ())) (
 J14 (false, ()))) (
 J14 (false, ()))) fun (s15 : Bool × Unit) =>
 sif s15.1 (
 again13 ((IntKind.wrap .i64 (s12.1 + (1 : Int))), ())) (
 J10 (s12.1, ()))) ((2 : Int), ())) fun (s11 : Int × Unit) =>
 K (s11.1, x3.1, ())))
noncomputable def h189 : Hint := (hS (hR 2) (hS (hR 11) (hS (hS (hR 2) (hC (hS (hR 4) hL) hL)) (hS (hJ (137437904896, [(36, tB)]) (.region [] (.ops 4 (.split 23 (.skips 5 (.ops 2 (.skips 5 (hO 1)))) (.ops 7 (.split 30 (.skips 5 (hO 1)) (hO 6)))))) (hC (hS (hR 3) hL) hL)) (hS (hR 1) (hJ (144114913197949056, [(7, tI)]) (.block (.loop 144114913197949056 [(7, tI)] (hS (hJ (36028522141057024, [(54, tB)]) (.region [] (.ops 4 (.split 41 (.ops 6 (.split 47 (hO 7) (.skips 6 (hO 1)))) (.skips 4 (.ops 2 (.skips 6 (hO 1))))))) (hC hL hL)) (.block (hR 3))))) (hS (hR 4) hL)))))))
theorem F189_calls {a0 : Sl} {K : (Int × Int × Unit) → World → Prop} {w : World} (h : F189 a0 K w) : callT Tryz.prog 189 #[(.slice a0.a a0.len a0.cap)] (.tup [(.one (.int .i64)), (.one (.int .i64))]) K w := tied tabOk Tryz.func189 h189 [(.slice a0.a a0.len a0.cap)] h
noncomputable def F190 (a0 : Int) (K : (Int × Int × Int × Unit) → World → Prop) : World → Prop :=
 sif (decide (a0 < (128 : Int))) (
 K ((1 : Int), (0 : Int), (0 : Int), ())) (
 sif (decide (a0 < (194 : Int))) (
 K ((0 : Int), (0 : Int), (0 : Int), ())) (
 sif (decide (a0 < (224 : Int))) (
 K ((2 : Int), (128 : Int), (191 : Int), ())) (
 sif (a0 == (224 : Int)) (
 K ((3 : Int), (160 : Int), (191 : Int), ())) (
 sif (a0 == (237 : Int)) (
 K ((3 : Int), (128 : Int), (159 : Int), ())) (
 sif (decide (a0 < (240 : Int))) (
 K ((3 : Int), (128 : Int), (191 : Int), ())) (
 sif (a0 == (240 : Int)) (
 K ((4 : Int), (144 : Int), (191 : Int), ())) (
 sif (decide (a0 < (244 : Int))) (
 K ((4 : Int), (128 : Int), (191 : Int), ())) (
 sif (a0 == (244 : Int)) (
 K ((4 : Int), (128 : Int), (143 : Int), ())) (
 K ((0 : Int), (0 : Int), (0 : Int), ()))))))))))
noncomputable def h190 : Hint := (hS (hR 3) (hS (.block (hS (hR 3) (hC (hS (hR 3) hL) (hS (hR 3) (hC (hS (hR 3) hL) (hS (hR 3) (hC (hS (hR 3) hL) (hS (hR 3) (hC (hS (hR 3) hL) (hS (hR 3) (hC (hS (hR 3) hL) (hS (hR 3) (hC (hS (hR 3) hL) (hS (hR 3) (hC (hS (hR 3) hL) (hS (hR 3) (hC (hS (hR 3) hL) (hS (hR 3) (hC (hS (hR 3) hL) hL))))))))))))))))))) (hS (hR 3) hL)))
theorem F190_calls {a0 : Int} {K : (Int × Int × Int × Unit) → World → Prop} {w : World} (h : F190 a0 K w) : callT Tryz.prog 190 #[(.int .u8 a0)] (.tup [(.one (.int .i64)), (.one (.int .u8)), (.one (.int .u8))]) K w := tied tabOk Tryz.func190 h190 [(.int .u8 a0)] h
noncomputable def F191 (a0 : (Int × Unit)) (a1 : Sl) (K : (Int × Int × Unit) → World → Prop) : World → Prop :=
 newO (.cells #[(.int .i64 a0.1)] 148) fun b1 =>
 sif (((a1.len : Nat) : Int) == (1 : Int)) (
 ix a1.a a1.len (0 : Int) fun p2 =>
 ld (.int .u8) (p2.add (scaled (Int.toNat (0 : Int)) 1)) fun (x3 : Int) =>
 K ((IntKind.wrap .i64 ((-1 : Int) - (IntKind.wrap .i64 x3))), (1 : Int), ())) (
 lds c148 (at0 b1) fun (x4 : (Int × Unit)) =>
 callT Tryz.prog 196 #[(.agg (Cells.vals c148 x4).toArray), (.slice a1.a a1.len a1.cap)] (.one (.one (.int .i64))) fun (x5 : Int) =>
 join (S := Unit) (fun J6 =>
 join (S := Bool × Unit) (fun J8 =>
 callT Tryz.prog 197 #[(.int .i64 x5)] (.one (.one .bool)) fun (x10 : Bool) =>
 sif x10 (
 J8 ((decide (((a1.len : Nat) : Int) ≥ (4 : Int))), ())) (
 J8 (false, ()))) fun (s9 : Bool × Unit) =>
 sif s9.1 (
 drew <|
 lds c148 (at0 b1) fun (x11 : (Int × Unit)) =>
 slc a1.a (2 : Int) ((a1.len : Nat) : Int) ((a1.cap : Nat) : Int) a1.cap 1 fun x12 =>
 callT Tryz.prog 196 #[(.agg (Cells.vals c148 x11).toArray), (.slice x12.a x12.len x12.cap)] (.one (.one (.int .i64))) fun (x13 : Int) =>
 callT Tryz.prog 198 #[(.int .i64 x13)] (.one (.one .bool)) fun (x14 : Bool) =>
 sif x14 (
 chk (0 ≤ (10 : Int)) <|
 K ((IntKind.wrap .i64 ((IntKind.wrap .i64 ((65536 : Int) + (IntKind.wrap .i64 ((IntKind.wrap .i64 ((BitVec.toNat (BitVec.ofInt (IntKind.bits .i64) x5 &&& BitVec.ofInt (IntKind.bits .i64) (1023 : Int)) : Nat) : Int)) * 2 ^ (min (Int.toNat (10 : Int)) (IntKind.bits .i64)))))) + (IntKind.wrap .i64 ((BitVec.toNat (BitVec.ofInt (IntKind.bits .i64) x13 &&& BitVec.ofInt (IntKind.bits .i64) (1023 : Int)) : Nat) : Int)))), (4 : Int), ())) (
 J6 ())) (
 J6 ())) fun (s7 : Unit) =>
 K (x5, (2 : Int), ()))
noncomputable def h191 : Hint := (hS (hR 3) (hS (hS (hR 3) (hC (hS (hR 7) hL) hL)) (hS (hR 4) (hJ (549755289776, []) (hJ (66584576, [(25, tB)]) (.region [] (.ops 3 (.split 21 (hO 4) (.skips 3 (hO 1))))) (hC (hS (.region [0, 1, 2, 3, 4] (hO 5)) (hS (hR 2) (hC (hS (hR 9) hL) hL))) hL)) (hS (hR 3) hL)))))
theorem F191_calls {a0 : (Int × Unit)} {a1 : Sl} {K : (Int × Int × Unit) → World → Prop} {w : World} (h : F191 a0 a1 K w) : callT Tryz.prog 191 #[(.agg (Cells.vals c148 a0).toArray), (.slice a1.a a1.len a1.cap)] (.tup [(.one (.int .i64)), (.one (.int .i64))]) K w := tied tabOk Tryz.func191 h191 [(.agg (Cells.vals c148 a0).toArray), (.slice a1.a a1.len a1.cap)] h
noncomputable def F194 (a0 : (Int × Unit)) (a1 : Sl) (a2 : Int) (K : Sl → World → Prop) : World → Prop :=
 newO (.cells #[(.int .i64 a0.1)] 148) fun b1 =>
 sif (decide (a2 < (0 : Int))) (
 newO (.cells #[(.int .u8 (IntKind.wrap .u8 (IntKind.wrap .i64 ((-1 : Int) - a2))))] 5) fun b2 =>
 rawT Tryz.prog (.one (.one .sl)) (Builtin.append_ #[22, 22] 22 #[(.slice a1.a a1.len a1.cap), (.slice (some (at0 b2)) 1 1)]) fun (x3 : Sl) =>
 K x3) (
 sif (decide (a2 < (65536 : Int))) (
 lds c148 (at0 b1) fun (x4 : (Int × Unit)) =>
 callT Tryz.prog 199 #[(.agg (Cells.vals c148 x4).toArray), (.slice a1.a a1.len a1.cap), (.int .i64 a2)] (.one (.one .sl)) fun (x5 : Sl) =>
 K x5) (
 drew <|
 lds c148 (at0 b1) fun (x6 : (Int × Unit)) =>
 lds c148 (at0 b1) fun (x7 : (Int × Unit)) =>
 chk (0 ≤ (10 : Int)) <|
 callT Tryz.prog 199 #[(.agg (Cells.vals c148 x7).toArray), (.slice a1.a a1.len a1.cap), (.int .i64 (IntKind.wrap .i64 ((BitVec.toNat (BitVec.ofInt (IntKind.bits .i64) (55296 : Int) ||| BitVec.ofInt (IntKind.bits .i64) (Int.fdiv (IntKind.wrap .i64 (a2 - (65536 : Int))) (2 ^ (min (Int.toNat (10 : Int)) (IntKind.bits .i64))))) : Nat) : Int)))] (.one (.one .sl)) fun (x8 : Sl) =>
 keep (fun w => cellsAt w (at0 b1) 0 (Cells.vals c148 x6)) <|
 callT Tryz.prog 199 #[(.agg (Cells.vals c148 x6).toArray), (.slice x8.a x8.len x8.cap), (.int .i64 (IntKind.wrap .i64 ((BitVec.toNat (BitVec.ofInt (IntKind.bits .i64) (56320 : Int) ||| BitVec.ofInt (IntKind.bits .i64) (IntKind.wrap .i64 ((BitVec.toNat (BitVec.ofInt (IntKind.bits .i64) a2 &&& BitVec.ofInt (IntKind.bits .i64) (1023 : Int)) : Nat) : Int))) : Nat) : Int)))] (.one (.one .sl)) fun (x9 : Sl) =>
 K x9))
noncomputable def h194 : Hint := (hS (hR 2) (hS (.block (hS (hR 3) (hC (hS (hR 7) hL) (hS (hR 3) (hC (hS (hR 5) hL) hL))))) (hS (.region [0, 1, 2, 3, 4, 5, 6, 8, 9, 10, 7, 11, 12] (hO 13)) hL)))
theorem F194_calls {a0 : (Int × Unit)} {a1 : Sl} {a2 : Int} {K : Sl → World → Prop} {w : World} (h : F194 a0 a1 a2 K w) : callT Tryz.prog 194 #[(.agg (Cells.vals c148 a0).toArray), (.slice a1.a a1.len a1.cap), (.int .i64 a2)] (.one (.one .sl)) K w := tied tabOk Tryz.func194 h194 [(.agg (Cells.vals c148 a0).toArray), (.slice a1.a a1.len a1.cap), (.int .i64 a2)] h
noncomputable def F195 (a0 : (Int × Unit)) (a1 : Int) (K : Int → World → Prop) : World → Prop :=
 newO (.cells #[(.int .i64 a0.1)] 148) fun b1 =>
 join (S := Bool × Unit) (fun J2 =>
 sif (decide (a1 < (-256 : Int))) (
 J2 (true, ())) (
 J2 ((decide (a1 > (1114111 : Int))), ()))) fun (s3 : Bool × Unit) =>
 sif s3.1 (
 K (0 : Int)) (
 sif (decide (a1 < (0 : Int))) (
 K (1 : Int)) (
 sif (decide (a1 < (65536 : Int))) (
 K (2 : Int)) (
 K (4 : Int))))
noncomputable def h195 : Hint := (hS (hR 2) (hS (.block (hJ (4064, [(5, tB)]) (.region [] (.ops 3 (.split 8 (.skips 2 (hO 2)) (hO 4)))) (hC (hS (hR 1) hL) (hS (hR 3) (hC (hS (hR 1) hL) (hS (hR 3) (hC (hS (hR 1) hL) hL))))))) (hS (hR 1) hL)))
theorem F195_calls {a0 : (Int × Unit)} {a1 : Int} {K : Int → World → Prop} {w : World} (h : F195 a0 a1 K w) : callT Tryz.prog 195 #[(.agg (Cells.vals c148 a0).toArray), (.int .i64 a1)] (.one (.one (.int .i64))) K w := tied tabOk Tryz.func195 h195 [(.agg (Cells.vals c148 a0).toArray), (.int .i64 a1)] h
noncomputable def F196 (a0 : (Int × Unit)) (a1 : Sl) (K : Int → World → Prop) : World → Prop :=
 newO (.cells #[(.int .i64 a0.1)] 148) fun b1 =>
 drew <|
 ld (.int .i64) (at0 b1) fun (x2 : Int) =>
 ix a1.a a1.len x2 fun p3 =>
 ld (.int .u8) (p3.add (scaled (Int.toNat x2) 1)) fun (x4 : Int) =>
 ld (.int .i64) (at0 b1) fun (x5 : Int) =>
 ix a1.a a1.len (IntKind.wrap .i64 ((1 : Int) - x5)) fun p6 =>
 ld (.int .u8) (p6.add (scaled (Int.toNat (IntKind.wrap .i64 ((1 : Int) - x5))) 1)) fun (x7 : Int) =>
 chk (0 ≤ (8 : Int)) <|
 K (IntKind.wrap .i64 ((BitVec.toNat (BitVec.ofInt (IntKind.bits .i64) (IntKind.wrap .i64 x4) ||| BitVec.ofInt (IntKind.bits .i64) (IntKind.wrap .i64 ((IntKind.wrap .i64 x7) * 2 ^ (min (Int.toNat (8 : Int)) (IntKind.bits .i64))))) : Nat) : Int))
noncomputable def h196 : Hint := (hS (hR 2) (hS (.region [0, 1, 2, 3, 4, 5, 6, 7, 8, 9, 10, 11, 12, 13, 14, 15] (hO 16)) hL))
theorem F196_calls {a0 : (Int × Unit)} {a1 : Sl} {K : Int → World → Prop} {w : World} (h : F196 a0 a1 K w) : callT Tryz.prog 196 #[(.agg (Cells.vals c148 a0).toArray), (.slice a1.a a1.len a1.cap)] (.one (.one (.int .i64))) K w := tied tabOk Tryz.func196 h196 [(.agg (Cells.vals c148 a0).toArray), (.slice a1.a a1.len a1.cap)] h
noncomputable def F197 (a0 : Int) (K : Bool → World → Prop) : World → Prop :=
 K ((IntKind.wrap .i64 ((BitVec.toNat (BitVec.ofInt (IntKind.bits .i64) a0 &&& ~~~(BitVec.ofInt (IntKind.bits .i64) (1023 : Int))) : Nat) : Int)) == (55296 : Int))
noncomputable def h197 : Hint := (hS (hR 1) (hS (hR 4) hL))
theorem F197_calls {a0 : Int} {K : Bool → World → Prop} {w : World} (h : F197 a0 K w) : callT Tryz.prog 197 #[(.int .i64 a0)] (.one (.one .bool)) K w := tied tabOk Tryz.func197 h197 [(.int .i64 a0)] h
noncomputable def F198 (a0 : Int) (K : Bool → World → Prop) : World → Prop :=
 K ((IntKind.wrap .i64 ((BitVec.toNat (BitVec.ofInt (IntKind.bits .i64) a0 &&& ~~~(BitVec.ofInt (IntKind.bits .i64) (1023 : Int))) : Nat) : Int)) == (56320 : Int))
noncomputable def h198 : Hint := (hS (hR 1) (hS (hR 4) hL))
theorem F198_calls {a0 : Int} {K : Bool → World → Prop} {w : World} (h : F198 a0 K w) : callT Tryz.prog 198 #[(.int .i64 a0)] (.one (.one .bool)) K w := tied tabOk Tryz.func198 h198 [(.int .i64 a0)] h
noncomputable def F199 (a0 : (Int × Unit)) (a1 : Sl) (a2 : Int) (K : Sl → World → Prop) : World → Prop :=
 newO (.cells #[(.int .i64 a0.1)] 148) fun b1 =>
 newO (.cells #[(.int .u8 (0 : Int)), (.int .u8 (0 : Int))] 190) fun b2 =>
 drew <|
 ld (.int .i64) (at0 b1) fun (x3 : Int) =>
 ld (.int .i64) (at0 b1) fun (x4 : Int) =>
 chk (0 ≤ (8 : Int)) <|
 chk (0 ≤ x3 ∧ x3 < ((2 : Nat) : Int)) <|
 stC ((at0 b2).add (scaled (Int.toNat x3) 1)) (.int .u8 (IntKind.wrap .u8 a2)) <|
 keep (fun w => w.cell? (at0 b1) = some (Cell.val (.int .i64) x4)) <|
 chk (0 ≤ (IntKind.wrap .i64 ((1 : Int) - x4)) ∧ (IntKind.wrap .i64 ((1 : Int) - x4)) < ((2 : Nat) : Int)) <|
 stC ((at0 b2).add (scaled (Int.toNat (IntKind.wrap .i64 ((1 : Int) - x4))) 1)) (.int .u8 (IntKind.wrap .u8 (Int.fdiv a2 (2 ^ (min (Int.toNat (8 : Int)) (IntKind.bits .i64)))))) <|
 slc (some (at0 b2)) 0 ((2 : Nat) : Int) ((2 : Nat) : Int) 2 1 fun x5 =>
 rawT Tryz.prog (.one (.one .sl)) (Builtin.append_ #[22, 22] 22 #[(.slice a1.a a1.len a1.cap), (.slice x5.a x5.len x5.cap)]) fun (x6 : Sl) =>
 K x6
noncomputable def h199 : Hint := (hS (hR 2) (hS (hR 1) (hS (.region [0, 1, 2, 3, 4, 5, 6, 7, 8, 9, 10, 11, 12, 13] (hO 14)) (hS (hR 4) hL))))
theorem F199_calls {a0 : (Int × Unit)} {a1 : Sl} {a2 : Int} {K : Sl → World → Prop} {w : World} (h : F199 a0 a1 a2 K w) : callT Tryz.prog 199 #[(.agg (Cells.vals c148 a0).toArray), (.slice a1.a a1.len a1.cap), (.int .i64 a2)] (.one (.one .sl)) K w := tied tabOk Tryz.func199 h199 [(.agg (Cells.vals c148 a0).toArray), (.slice a1.a a1.len a1.cap), (.int .i64 a2)] h
noncomputable def F200 (a0 : (Unit)) (a1 : Sl) (K : (Int × Int × Unit) → World → Prop) : World → Prop :=
 newO (.cells #[] 149) fun b1 =>
 ix a1.a a1.len (0 : Int) fun p2 =>
 ld (.int .u8) (p2.add (scaled (Int.toNat (0 : Int)) 1)) fun (x3 : Int) =>
 K ((IntKind.wrap .i64 x3), (1 : Int), ())
noncomputable def h200 : Hint := (hS (hR 3) (hS (hR 6) hL))
theorem F200_calls {a0 : (Unit)} {a1 : Sl} {K : (Int × Int × Unit) → World → Prop} {w : World} (h : F200 a0 a1 K w) : callT Tryz.prog 200 #[(.agg (Cells.vals c149 a0).toArray), (.slice a1.a a1.len a1.cap)] (.tup [(.one (.int .i64)), (.one (.int .i64))]) K w := tied tabOk Tryz.func200 h200 [(.agg (Cells.vals c149 a0).toArray), (.slice a1.a a1.len a1.cap)] h
noncomputable def F203 (a0 : (Unit)) (a1 : Sl) (a2 : Int) (K : Sl → World → Prop) : World → Prop :=
 newO (.cells #[] 149) fun b1 =>
 newO (.cells #[(.int .u8 (IntKind.wrap .u8 a2))] 5) fun b2 =>
 rawT Tryz.prog (.one (.one .sl)) (Builtin.append_ #[22, 22] 22 #[(.slice a1.a a1.len a1.cap), (.slice (some (at0 b2)) 1 1)]) fun (x3 : Sl) =>
 K x3
noncomputable def h203 : Hint := (hS (hR 2) (hS (hR 6) hL))
theorem F203_calls {a0 : (Unit)} {a1 : Sl} {a2 : Int} {K : Sl → World → Prop} {w : World} (h : F203 a0 a1 a2 K w) : callT Tryz.prog 203 #[(.agg (Cells.vals c149 a0).toArray), (.slice a1.a a1.len a1.cap), (.int .i64 a2)] (.one (.one .sl)) K w := tied tabOk Tryz.func203 h203 [(.agg (Cells.vals c149 a0).toArray), (.slice a1.a a1.len a1.cap), (.int .i64 a2)] h
noncomputable def F204 (a0 : (Unit)) (a1 : Int) (K : Int → World → Prop) : World → Prop :=
 newO (.cells #[] 149) fun b1 =>
 join (S := Bool × Unit) (fun J2 =>
 sif (decide (a1 < (0 : Int))) (
 J2 (true, ())) (
 J2 ((decide (a1 > (255 : Int))), ()))) fun (s3 : Bool × Unit) =>
 sif s3.1 (
 K (0 : Int)) (
 K (1 : Int))
noncomputable def h204 : Hint := (hS (hR 2) (hS (hJ (2016, [(10, tB)]) (.region [] (.ops 3 (.split 7 (.skips 2 (hO 1)) (hO 3)))) (hC (hS (hR 1) hL) hL)) (hS (hR 1) hL)))
theorem F204_calls {a0 : (Unit)} {a1 : Int} {K : Int → World → Prop} {w : World} (h : F204 a0 a1 K w) : callT Tryz.prog 204 #[(.agg (Cells.vals c149 a0).toArray), (.int .i64 a1)] (.one (.one (.int .i64))) K w := tied tabOk Tryz.func204 h204 [(.agg (Cells.vals c149 a0).toArray), (.int .i64 a1)] h
end Go.Proofs.YtolhlldgnfbemaaGreat
namespace Go.Proofs.YtolhlldgnfbemaaGreat
open Go Go.Vx Cdc
section
variable {w w' : World}
theorem func_x {g : FuncId} {caps args : Array Value} {t : RTy} {K : t.T → World → Prop} (hf : ((Tryz.prog.funcs[g]?).map fun fn => (fn.body.isNone, fn.name == "runtime.NumGoroutine")) = some (false, false)) (h : callT Tryz.prog g (args ++ caps) t K w) :
  callX Tryz.prog (do let d ← Deferred.ofValue (.func (.func g) #[] caps) args; invoke d.target d.args : Sem Next) t K w := by
 refine .inl ⟨g, args ++ caps, ?_, h⟩
 have := run_callFunc (P := Tryz.prog) (f := g) (args := args ++ caps) hf w
 simp only [Deferred.ofValue, pure_bind, invoke]
 have e : (#[] ++ args ++ caps : Array Value) = args ++ caps := by simp
 first
  | exact this
  | (rw [e]; exact this)
theorem meth_x {ty : TypeId} {v v' : Value} {name : String} {f : FuncId} {a : Value} {t : RTy} {K : t.T → World → Prop} (hm : ∀ w, (Go.method (Tryz.prog.types.size + Made.depth) ty v name).run Tryz.prog w = .ok (f, v') w)
  (hf : ((Tryz.prog.funcs[f]?).map fun fn => (fn.body.isNone, fn.name == "runtime.NumGoroutine")) = some (false, false)) (h : callT Tryz.prog f #[v', a] t K w) :
  callX Tryz.prog (invoke (.fn (.method name) #[]) (#[.iface ty v] ++ #[a])) t K w := by
 refine .inl ⟨f, #[v', a], ?_, h⟩
 have h := run_callFunc (P := Tryz.prog) (f := f) (args := #[v', a]) hf w
 have e : invoke (.fn (.method name) #[]) (#[.iface ty v] ++ #[a]) = callMethod (.iface ty v) name #[a] := rfl
 rw [e]
 simp only [callMethod, Sem.run_bind, program, Sem.run, Result.andThen_ok, hm]
 exact h
theorem meth_x2 {ty : TypeId} {v v' : Value} {name : String} {f : FuncId} {a b : Value} {t : RTy} {K : t.T → World → Prop} (hm : ∀ w, (Go.method (Tryz.prog.types.size + Made.depth) ty v name).run Tryz.prog w = .ok (f, v') w)
  (hf : ((Tryz.prog.funcs[f]?).map fun fn => (fn.body.isNone, fn.name == "runtime.NumGoroutine")) = some (false, false)) (h : callT Tryz.prog f #[v', a, b] t K w) :
  callX Tryz.prog (invoke (.fn (.method name) #[]) (#[.iface ty v] ++ #[a, b])) t K w := by
 refine .inl ⟨f, #[v', a, b], ?_, h⟩
 have h := run_callFunc (P := Tryz.prog) (f := f) (args := #[v', a, b]) hf w
 have e : invoke (.fn (.method name) #[]) (#[.iface ty v] ++ #[a, b]) = callMethod (.iface ty v) name #[a, b] := rfl
 rw [e]
 simp only [callMethod, Sem.run_bind, program, Sem.run, Result.andThen_ok, hm]
 exact h
abbrev By (w : World) (s : Sl) (l : Bs) : Prop := SlIn w s 5 1 (bv l)
theorem By.len {s : Sl} {l : Bs} (h : By w s l) : l.length = s.len := by have := h.len1; rwa [List.length_map] at this
theorem bv_map (l : Bs) : bv l = (l.map fun b => (b.toNat : Int)).map (Cell.int .u8).val := by
 rw [List.map_map]; rfl
theorem ix_by {s : Sl} {l : Bs} {n : Int} {K : Addr → Int → World → Prop} (h : By w s l) (h0 : 0 ≤ n) {b : UInt8} (hb : l[n.toNat]? = some b) (hK : ∀ p, K p (b.toNat : Int) w) :
  ix s.a s.len n (fun p => ld (.int .u8) (p.add (scaled (Int.toNat n) 1)) (K p)) w := by
 have h' : SlIn w s 5 1 ((l.map fun b => (b.toNat : Int)).map (Cell.int .u8).val) := by rw [← bv_map]; exact h
 exact ix_ld h' h0 (x := (b.toNat : Int)) (by rw [List.getElem?_map, hb]; rfl) hK
theorem bv_drop (l : Bs) (n : Nat) : (bv l).drop n = bv (l.drop n) := by simp [bv]
theorem bv_take (l : Bs) (n : Nat) : (bv l).take n = bv (l.take n) := by simp [bv]
theorem slc_by {s : Sl} {l : Bs} {a b m : Int} {K : Sl → World → Prop} (hs : By w s l) (h0 : 0 ≤ a) (h1 : a ≤ b) (h2 : b ≤ s.len) (h3 : b ≤ m) (h4 : m ≤ s.cap)
  (hK : ∀ s', By w s' ((l.drop a.toNat).take (b.toNat - a.toNat)) → s'.len = b.toNat - a.toNat → (∀ k, s'.blk k → s.blk k) → K s' w) : slc s.a a b m s.cap 1 K w :=
 slc_r hs h0 h1 h2 h3 h4 fun s' hs' hl _ hb => hK s' (by
  rw [Nat.mul_one, Nat.mul_one, bv_drop, bv_take] at hs'; exact hs') hl hb
theorem bounds_call {c : UInt8} {K : Int × Int × Int × Unit → World → Prop} (hK : K (((bnds c.toNat).1 : Nat), ((bnds c.toNat).2.1 : Nat), ((bnds c.toNat).2.2 : Nat), ()) w) :
  callT Tryz.prog 190 #[.int .u8 (c.toNat : Int)] (.tup [(.one (.int .i64)), (.one (.int .u8)), (.one (.int .u8))]) K w := by
 refine F190_calls ?_
 unfold F190
 have hlt := c.toNat_lt
 unfold bnds at hK
 repeat' refine sif_r (fun h => ?_) (fun h => ?_)
 all_goals simp only [decide_eq_true_eq, decide_eq_false_iff_not, beq_iff_eq, beq_eq_false_iff_ne] at *
 all_goals
  repeat rw [if_pos (by omega)] at hK
  repeat rw [if_neg (by omega)] at hK
  repeat rw [if_pos (by omega)] at hK
  exact hK
theorem more_step {c : UInt8} : ∀ {m : Nat} {r : Bs} {j : Nat}, j ≤ more m r → (j < m ∧ r[j]? = some c ∧ cont c = true → j < more m r)
 | 0, r, j, _ => fun h => absurd h.1 (by omega)
 | m + 1, [], j, _ => fun h => by simp at h
 | m + 1, b :: r, 0, _ => fun h => by
  simp at h
  simp [more, h]
 | m + 1, b :: r, j + 1, hj => fun h => by
  simp only [more] at hj ⊢
  split at hj
  ·rename_i hb
   rw [if_pos hb]
   have := more_step (c := c) (m := m) (r := r) (j := j) (by omega) ⟨by omega, by simpa using h.2.1, h.2.2⟩
   omega
  ·omega
theorem more_cont : ∀ {m : Nat} {r : Bs} {j : Nat}, j < more m r → ∃ c, r[j]? = some c ∧ cont c = true
 | 0, r, j, h => by cases r <;> simp [more] at h
 | m + 1, [], j, h => by simp [more] at h
 | m + 1, b :: r, 0, h => by
  simp only [more] at h
  split at h
  ·rename_i hb; exact ⟨b, rfl, hb⟩
  ·omega
 | m + 1, b :: r, j + 1, h => by
  simp only [more] at h
  split at h
  ·obtain ⟨c, hc⟩ := more_cont (m := m) (r := r) (j := j) (by omega)
   exact ⟨c, by simpa using hc⟩
  ·omega
theorem cont_bits : ∀ c : UInt8, ((IntKind.wrap .u8 ((BitVec.toNat (BitVec.ofInt (IntKind.bits .u8) (c.toNat : Int) &&& BitVec.ofInt (IntKind.bits .u8) (192 : Int)) : Nat) : Int)) == (128 : Int)) = cont c := by
 intro c
 have h : ∀ n : Fin 256, ((IntKind.wrap .u8 ((BitVec.toNat (BitVec.ofInt (IntKind.bits .u8) (n.val : Int) &&& BitVec.ofInt (IntKind.bits .u8) (192 : Int)) : Nat) : Int)) == (128 : Int)) = (n.val / 64 == 2) := by decide +kernel
 exact h ⟨c.toNat, c.toNat_lt⟩
theorem row_call {s : Sl} {b : UInt8} {r : Bs} (hB : By w s (b :: r)) {K : Int × Int × Unit → World → Prop} (hK : K (((rowOf (b :: r)).1 : Nat), ((rowOf (b :: r)).2 : Nat), ()) w) :
  callT Tryz.prog 189 #[.slice s.a s.len s.cap] (.tup [(.one (.int .i64)), (.one (.int .i64))]) K w := by
 refine F189_calls ?_
 unfold F189
 have hlen : r.length + 1 = s.len := hB.len
 refine ix_by hB (by decide) (b := b) rfl fun p => bounds_call ?_
 have h4 := bnds_le b.toNat
 have hbr := rowOf_bnds b r
 refine sif_r (fun h => ?_) (fun h => ?_)
 ·simp only [decide_eq_true_eq] at h
  have h2 : (bnds b.toNat).1 < 2 := by omega
  simp only [rowOf, if_pos h2] at hK
  exact hK
 simp only [decide_eq_false_iff_not] at h
 have h2 : ¬ (bnds b.toNat).1 < 2 := by omega
 cases r with
 | nil =>
  simp only [rowOf, if_neg h2] at hK
  have : s.len = 1 := by simpa using hlen.symm
  refine join_r (fun x w' => x = (true, ()) ∧ w = w') (sif_r (fun _ => ⟨rfl, rfl⟩) (fun h => ?_)) ?_
  ·simp only [decide_eq_false_iff_not] at h; omega
  ·rintro _ w' ⟨rfl, rfl⟩
   exact sif_true hK
 | cons c r =>
  have hl2 : r.length + 2 = s.len := by simpa using hlen
  refine join_r (fun x w' => x = (decide (c.toNat < (bnds b.toNat).2.1 ∨ (bnds b.toNat).2.2 < c.toNat), ()) ∧ w = w') (sif_r (fun h => ?_) (fun _ => ?_)) ?_
  ·simp only [decide_eq_true_eq] at h; omega
  ·refine ix_by hB (by decide) (b := c) rfl fun p => sif_r (fun h => ?_) (fun h => ix_by hB (by decide) (b := c) rfl fun p => ?_)
   ·simp only [decide_eq_true_eq] at h
    exact ⟨by rw [decide_eq_true (by omega)], rfl⟩
   ·simp only [decide_eq_false_iff_not] at h
    refine ⟨tupb ?_, rfl⟩
    simp only [decide_eq_true_eq]
    omega
  ·rintro _ w' ⟨rfl, rfl⟩
   refine sif_r (fun h => ?_) (fun h => ?_)
   ·simp only [decide_eq_true_eq] at h
    simp only [rowOf, if_neg h2, if_pos h] at hK
    exact hK
   ·simp only [decide_eq_false_iff_not] at h
    simp only [rowOf, if_neg h2, if_neg h] at hK
    generalize hm : (bnds b.toNat).1 - 2 = m at hK
    have hn : (bnds b.toNat).1 = m + 2 := by omega
    rw [hn] at hK ⊢
    refine join_r (fun x w' => x = (((2 + more m r : Nat) : Int), ()) ∧ w = w') ?_ ?_
    ·refine sloop_r (fun x w' => (∃ j : Nat, x = (((2 + j : Nat) : Int), ()) ∧ j ≤ more m r) ∧ w = w') (fun x _ => (m + 2 - x.1.toNat)) ⟨⟨0, rfl, Nat.zero_le _⟩, rfl⟩ ?_
     rintro _ w' ⟨⟨j, rfl, hj⟩, rfl⟩
     have hmo := more_le m r
     refine join_r (fun x w' => x = (decide (j < more m r), ()) ∧ w = w') ?_ ?_
     ·refine sif_r (fun h => ?_) (fun h => ?_)
      ·simp only [decide_eq_true_eq] at h
       refine sif_r (fun h' => ?_) (fun h' => ?_)
       ·simp only [decide_eq_true_eq] at h'
        have hjl : j < r.length := by omega
        have hx : (b :: c :: r)[((2 + j : Nat) : Int).toNat]? = some r[j] := by
         have : ((2 + j : Nat) : Int).toNat = j + 2 := by omega
         rw [this]; simp [hjl]
        refine ix_by hB (by omega) hx fun p => ⟨?_, rfl⟩
        rw [cont_bits]
        refine tupb ?_
        simp only [decide_eq_true_eq]
        refine ⟨fun hc => more_step (c := r[j]) hj ⟨by omega, by simp [hjl], hc⟩, fun hc => ?_⟩
        obtain ⟨c', h1, h2⟩ := more_cont hc
        rw [List.getElem?_eq_getElem hjl] at h1
        cases h1; exact h2
       ·simp only [decide_eq_false_iff_not] at h'
        exact ⟨by rw [decide_eq_false (by omega)], rfl⟩
      ·simp only [decide_eq_false_iff_not] at h
       exact ⟨by rw [decide_eq_false (by omega)], rfl⟩
     ·rintro _ w' ⟨rfl, rfl⟩
      refine sif_r (fun h => ?_) (fun h => ?_)
      ·simp only [decide_eq_true_eq] at h
       have e : IntKind.wrap .i64 (((2 + j : Nat) : Int) + 1) = ((2 + (j + 1) : Nat) : Int) := by rw [wrap64 (by omega) (by omega)]; omega
       rw [e]
       exact ⟨⟨⟨j + 1, rfl, h⟩, rfl⟩, by simp only; omega⟩
      ·simp only [decide_eq_false_iff_not] at h
       have : j = more m r := by omega
       exact ⟨by rw [this], rfl⟩
    ·rintro _ w' ⟨rfl, rfl⟩
     exact hK
theorem rest_snoc (a : Nat) (l : Bs) (c : UInt8) : rest a (l ++ [c]) = rest a l * 64 + c.toNat % 64 := by simp [rest]
theorem rest_lt : ∀ (l : Bs) (a : Nat), rest a l < (a + 1) * 64 ^ l.length
 | [], a => by simp [rest]
 | c :: l, a => by
  have := rest_lt l (a * 64 + c.toNat % 64)
  have e : rest a (c :: l) = rest (a * 64 + c.toNat % 64) l := rfl
  rw [e, List.length_cons, Nat.pow_succ]
  refine Nat.lt_of_lt_of_le this ?_
  have h : a * 64 + c.toNat % 64 + 1 ≤ (a + 1) * 64 := by omega
  calc (a * 64 + c.toNat % 64 + 1) * 64 ^ l.length ≤ (a + 1) * 64 * 64 ^ l.length := Nat.mul_le_mul_right _ h
   _ = (a + 1) * (64 ^ l.length * 64) := by rw [Nat.mul_assoc, Nat.mul_comm 64]
theorem lead_bits (c : UInt8) (k : Nat) (hk : k ≤ 8) : IntKind.wrap .i64 ((BitVec.toNat (BitVec.ofInt (IntKind.bits .i64) (IntKind.wrap .i64 (c.toNat : Int)) &&& BitVec.ofInt (IntKind.bits .i64) (2 ^ k - 1)) : Nat) : Int) = ((c.toNat % 2 ^ k : Nat) : Int) := by
 have hc := c.toNat_lt
 rw [wrap64 (a := (c.toNat : Int)) (by omega) (by omega)]
 have h := and_lo (b := IntKind.bits .i64) (k := k) (a := (c.toNat : Int)) (m := 2 ^ k - 1) (by omega) (by show (c.toNat : Int) < 2 ^ 64; omega) rfl (by show k ≤ 64; omega)
 rw [h, Int.natCast_emod]
 have e : ((2 ^ k : Nat) : Int) = (2 : Int) ^ k := by simp
 rw [e]
 have h0 : (0 : Int) < 2 ^ k := Int.pow_pos (by decide)
 have h1 : (c.toNat : Int) % 2 ^ k ≤ (c.toNat : Int) := by
  rw [← e, ← Int.natCast_emod]
  exact_mod_cast Nat.mod_le _ _
 have h2 := Int.emod_nonneg (c.toNat : Int) (Int.ne_of_gt h0)
 exact wrap64 (by omega) (by omega)
theorem lead5 (c : UInt8) : IntKind.wrap .i64 ((BitVec.toNat (BitVec.ofInt (IntKind.bits .i64) (IntKind.wrap .i64 (c.toNat : Int)) &&& BitVec.ofInt (IntKind.bits .i64) (31 : Int)) : Nat) : Int) = ((c.toNat % 32 : Nat) : Int) := lead_bits c 5 (by decide)
theorem lead4 (c : UInt8) : IntKind.wrap .i64 ((BitVec.toNat (BitVec.ofInt (IntKind.bits .i64) (IntKind.wrap .i64 (c.toNat : Int)) &&& BitVec.ofInt (IntKind.bits .i64) (15 : Int)) : Nat) : Int) = ((c.toNat % 16 : Nat) : Int) := lead_bits c 4 (by decide)
theorem lead3 (c : UInt8) : IntKind.wrap .i64 ((BitVec.toNat (BitVec.ofInt (IntKind.bits .i64) (IntKind.wrap .i64 (c.toNat : Int)) &&& BitVec.ofInt (IntKind.bits .i64) (7 : Int)) : Nat) : Int) = ((c.toNat % 8 : Nat) : Int) := lead_bits c 3 (by decide)
theorem go_bits (a : Nat) (c : UInt8) (ha : a < 2 ^ 40) : IntKind.wrap .i64 ((BitVec.toNat (BitVec.ofInt (IntKind.bits .i64) (IntKind.wrap .i64 ((a : Int) * 2 ^ (min (Int.toNat (6 : Int)) (IntKind.bits .i64)))) ||| BitVec.ofInt (IntKind.bits .i64) (IntKind.wrap .i64 (IntKind.wrap .u8 ((BitVec.toNat (BitVec.ofInt (IntKind.bits .u8) (c.toNat : Int) &&& BitVec.ofInt (IntKind.bits .u8) (63 : Int)) : Nat) : Int)))) : Nat) : Int) = ((a * 64 + c.toNat % 64 : Nat) : Int) := by
 have hc := c.toNat_lt
 have h1 := and_lo (b := IntKind.bits .u8) (k := 6) (a := (c.toNat : Int)) (m := 63) (by omega) (by show (c.toNat : Int) < 2 ^ 8; omega) rfl (by decide)
 rw [h1, wrap8 (by omega) (by omega), wrap64 (a := (c.toNat : Int) % 2 ^ 6) (by omega) (by omega)]
 have e : ((2 : Int) ^ (min (Int.toNat (6 : Int)) (IntKind.bits .i64))) = 2 ^ 6 := rfl
 rw [e, wrap64 (a := (a : Int) * 2 ^ 6) (by omega) (by omega)]
 have h2 := or_shift (b := IntKind.bits .i64) (k := 6) (a := (a : Int)) (c := (c.toNat : Int) % 2 ^ 6) (by omega) (by omega) (by omega) (by show _ < (2 : Int) ^ 64; omega)
 rw [h2, wrap64 (by omega) (by omega)]
 omega
theorem first8_call {s : Sl} {b : UInt8} {r : Bs} (hB : By w s (b :: r)) {K : Int × Int × Unit → World → Prop} (hK : ∀ w', Ext w w' → K ((nx8 (b :: r)).1, ((nx8 (b :: r)).2 : Nat), ()) w') :
  callT Tryz.prog 184 #[.agg #[], .slice s.a s.len s.cap] (.tup [(.one (.int .i64)), (.one (.int .i64))]) K w := by
 refine F184_calls (a0 := ()) ?_
 unfold F184
 have hlen : r.length + 1 = s.len := hB.len
 have hb := b.toNat_lt
 refine newO_r fun _ w1 e1 _ _ _ => ?_
 have hB1 : By w1 s (b :: r) := hB.ext e1
 refine row_call hB1 ?_
 have hro := rowOf_le b r
 have hrb := rowOf_bnds b r
 have h4 := bnds_le b.toNat
 have hcap := hB.le
 replace hK := hK w1 e1
 simp only [nx8] at hK
 generalize hn : (rowOf (b :: r)).2 = n at *
 generalize hh : (rowOf (b :: r)).1 = h at *
 refine join_r (fun x w' => x = (decide (n = 0 ∨ h < n), ()) ∧ w1 = w') (sif_r (fun hc => ?_) (fun hc => ?_)) ?_
 ·simp only [beq_iff_eq] at hc
  exact ⟨by rw [decide_eq_true (by omega)], rfl⟩
 ·simp only [beq_eq_false_iff_ne] at hc
  refine ⟨tupb ?_, rfl⟩
  simp only [decide_eq_true_eq]; omega
 rintro _ w' ⟨rfl, rfl⟩
 refine sif_r (fun hc => ?_) (fun hc => ?_)
 ·simp only [decide_eq_true_eq] at hc
  rw [if_pos hc] at hK
  refine ix_by hB1 (by decide) (b := b) rfl fun p => ?_
  rw [wrap64 (a := (b.toNat : Int)) (by omega) (by omega), wrap64 (by omega) (by omega)]
  exact hK
 simp only [decide_eq_false_iff_not] at hc
 rw [if_neg hc] at hK
 refine ix_by hB1 (by decide) (b := b) rfl fun p => ?_
 have hlt : lead n b.toNat < 256 := by unfold lead; (repeat' split) <;> omega
 refine join_r (fun x w' => x = (((lead n b.toNat : Nat) : Int), ()) ∧ w1 = w') ?_ ?_
 ·unfold lead
  refine sif_r (fun hc => ?_) (fun hc => sif_r (fun hc => ?_) (fun hc => sif_r (fun hc => ?_) (fun hc => ?_)))
  all_goals simp only [beq_iff_eq, beq_eq_false_iff_ne] at *
  ·rw [lead5, if_pos (by omega)]; exact ⟨rfl, trivial⟩
  ·rw [lead4, if_neg (by omega), if_pos (by omega)]; exact ⟨rfl, trivial⟩
  ·rw [lead3, if_neg (by omega), if_neg (by omega), if_pos (by omega)]; exact ⟨rfl, trivial⟩
  ·rw [if_neg (by omega), if_neg (by omega), if_neg (by omega), wrap64 (by omega) (by omega)]; exact ⟨rfl, trivial⟩
 rintro _ w' ⟨rfl, rfl⟩
 simp only
 generalize hld : lead n b.toNat = ld at *
 refine join_r (fun x w' => x = (((rest ld (r.take (n - 1)) : Nat) : Int), ()) ∧ w1 = w') ?_ ?_
 ·simp only [List.length_cons] at hro
  refine slc_by hB1 (by decide) (by omega) (by omega) (by omega) (by omega) fun s' hs' hl' _ => ?_
  have hR : ((b :: r).drop (Int.toNat 1)).take (((n : Nat) : Int).toNat - Int.toNat 1) = r.take (n - 1) := by
   have : ((n : Nat) : Int).toNat - Int.toNat 1 = n - 1 := by omega
   rw [this]; rfl
  rw [hR] at hs'
  generalize hRR : r.take (n - 1) = R at *
  have hRl : R.length = s'.len := hs'.len
  have hR3 : R.length ≤ 3 := by rw [← hRR, List.length_take]; omega
  refine sloop_r (fun x w' => (∃ i : Nat, x = (((rest ld (R.take i) : Nat) : Int), (i : Int), ()) ∧ i ≤ R.length) ∧ w1 = w') (fun x _ => R.length - x.2.1.toNat) ⟨⟨0, by simp [rest], Nat.zero_le _⟩, rfl⟩ ?_
  rintro _ w' ⟨⟨i, rfl, hi⟩, rfl⟩
  refine sif_r (fun hc => ?_) (fun hc => ?_)
  ·simp only [decide_eq_true_eq] at hc
   have hiR : i < R.length := by omega
   refine ix_by hs' (by simp only; omega) (b := R[i]) (by simp [hiR]) fun p => chk_r (by decide) ?_
   have hlt2 := rest_lt (R.take i) ld
   have hb2 : rest ld (R.take i) < 2 ^ 40 := by
    refine Nat.lt_of_lt_of_le hlt2 ?_
    have h1 : 64 ^ (R.take i).length ≤ 64 ^ 3 := Nat.pow_le_pow_right (by decide) (by rw [List.length_take]; omega)
    calc (ld + 1) * 64 ^ (R.take i).length ≤ 256 * 64 ^ 3 := Nat.mul_le_mul (by omega) h1
     _ ≤ 2 ^ 40 := by decide
   dsimp only
   rw [go_bits _ _ hb2]
   have e : rest ld (R.take i) * 64 + R[i].toNat % 64 = rest ld (R.take (i + 1)) := by
    rw [← rest_snoc, List.take_append_getElem]
   rw [e, wrap64 (by omega) (by omega)]
   exact ⟨⟨⟨i + 1, rfl, hiR⟩, rfl⟩, by omega⟩
  ·simp only [decide_eq_false_iff_not] at hc
   have : i = R.length := by omega
   subst this
   rw [List.take_length]
   exact ⟨rfl, rfl⟩
 rintro _ w' ⟨rfl, rfl⟩
 exact hK
end
end Go.Proofs.YtolhlldgnfbemaaGreat
namespace Go.Proofs.YtolhlldgnfbemaaGreat
open Go Go.Vx Cdc Gly
section
variable {w w' : World}
theorem wrap32 {a : Int} (h0 : -(2 ^ 31) ≤ a) (h : a < 2 ^ 31) : IntKind.wrap .i32 a = a := by
 simp only [IntKind.wrap, IntKind.signed, IntKind.bits]
 simp [Int.bmod_def]; omega
theorem gscalar_call {a : Int} {K : Bool → World → Prop} (hK : K (decide (Scalar a)) w) : callT Tryz.prog 149 #[.int .i64 a] (.one (.one .bool)) K w := by
 refine F149_calls ?_
 unfold F149
 have h1 : Scalar a → K true w := fun h => by rwa [decide_eq_true h] at hK
 have h2 : ¬ Scalar a → K false w := fun h => by rwa [decide_eq_false h] at hK
 unfold Scalar at h1 h2
 refine sif_r (fun h => sif_r (fun h' => ?_) (fun h' => sif_r (fun h'' => ?_) (fun h'' => ?_))) (fun h => sif_r (fun h'' => ?_) (fun h'' => ?_))
 all_goals simp only [decide_eq_true_eq, decide_eq_false_iff_not, gt_iff_lt, ge_iff_le] at *
 ·exact h1 (by omega)
 ·by_cases hc : a ≤ 1114111
  ·rw [decide_eq_true hc]; exact h1 (by omega)
  ·rw [decide_eq_false hc]; exact h2 (by omega)
 ·exact h2 (by omega)
 ·by_cases hc : a ≤ 1114111
  ·rw [decide_eq_true hc]; exact h1 (by omega)
  ·rw [decide_eq_false hc]; exact h2 (by omega)
 ·exact h2 (by omega)
theorem iter_ext (w : World) (s : ByteArray) (pos : Nat) : Ext w (w.iter s pos) := Ext.alloc w _
theorem num_snoc (l : Bs) (c : UInt8) : num (l ++ [c]) = num l * 16 + digit c := by simp [num]
theorem number_call {d : ByteArray} (h : d.data.toList.all okC = true) (hs : d.size ≤ 5) {K : Int → World → Prop} (hK : ∀ w', Ext w w' → K ((num d.data.toList : Nat) : Int) w') :
  callT Tryz.prog 161 #[.string d] (.one (.one (.int .i64))) K w := by
 refine F161_calls ?_
 unfold F161
 have hl : d.data.toList.length = d.size := Array.length_toList
 refine join_r (fun x w' => x = (((num d.data.toList : Nat) : Int), ()) ∧ Ext w w') ?_ (fun x w' h => by obtain ⟨rfl, h⟩ := h; exact hK w' h)
 refine ⟨some (at0 w.heap.size), w.iter d 0, run_range_string w 9 d i9_ok.und, ?_⟩
 refine sloop_r (fun x W => ∃ j, j ≤ d.size ∧ x = (((num (d.data.toList.take j) : Nat) : Int), ()) ∧ W = w.iter d j) (fun _ W => match W.heap[w.heap.size]? with | some (.stringIter _ pos) => d.size - pos | _ => 0) ⟨0, Nat.zero_le _, rfl, rfl⟩ ?_
 rintro _ W ⟨j, hj, rfl, rfl⟩
 by_cases hlt : j < d.size
 ·have hc : d.data.toList[j]? = some (d[j]'hlt) := by rw [List.getElem?_eq_getElem (by omega), Array.getElem_toList]; rfl
  have hok : okC (d[j]'hlt) = true := List.all_eq_true.1 h _ (List.mem_of_getElem? hc)
  have hok' := (okC_iff _).1 hok
  refine .inl ⟨_, _, _, run_next_ascii w d j 0 hlt (by omega), ?_⟩
  have hb := num_lt (d.data.toList.take j) (by rw [List.all_eq_true] at h ⊢; exact fun x hx => h x (List.mem_of_mem_take hx))
  have hb2 : num (d.data.toList.take j) < 16 ^ 4 := Nat.lt_of_lt_of_le hb (Nat.pow_le_pow_right (by decide) (by rw [List.length_take]; omega))
  have hn : num (d.data.toList.take (j + 1)) = num (d.data.toList.take j) * 16 + digit (d[j]'hlt) := by rw [List.take_add_one, hc]; exact num_snoc _ _
  refine sif_true (join_r (fun x W => x = (((digit (d[j]'hlt) : Nat) : Int), ()) ∧ W = w.iter d (j + 1)) ?_ ?_)
  ·refine sif_r (fun hg => ?_) (fun hg => ?_)
   ·simp only [decide_eq_true_eq, gt_iff_lt] at hg
    refine ⟨?_, rfl⟩
    rw [wrap32 (by omega) (by omega), wrap64 (a := ((d[j]'hlt).toNat : Int) - 65) (by omega) (by omega), wrap64 (by omega) (by omega)]
    unfold digit
    rw [if_pos (by omega)]
    congr 1; omega
   ·simp only [decide_eq_false_iff_not, gt_iff_lt] at hg
    refine ⟨?_, rfl⟩
    rw [wrap32 (by omega) (by omega), wrap64 (by omega) (by omega)]
    unfold digit
    rw [if_neg (by omega)]
    congr 1; omega
  ·rintro _ _ ⟨rfl, rfl⟩
   have hd : digit (d[j]'hlt) < 16 := by unfold digit; split <;> omega
   have ew : IntKind.wrap .i64 (IntKind.wrap .i64 (((num (d.data.toList.take j) : Nat) : Int) * 16) + ((digit (d[j]'hlt) : Nat) : Int)) = ((num (d.data.toList.take (j + 1)) : Nat) : Int) := by
    rw [hn, wrap64 (a := ((num (d.data.toList.take j) : Nat) : Int) * 16) (by omega) (by omega), wrap64 (by omega) (by omega)]; omega
   refine ⟨⟨j + 1, hlt, by dsimp only; rw [ew], rfl⟩, ?_⟩
   rw [World.iter_heap, World.iter_heap]
   show d.size - (j + 1) < d.size - j
   omega
 ·refine .inr ⟨_, run_next_end w d j 0 hlt, sif_false ⟨?_, iter_ext w d j⟩⟩
  rw [List.take_of_length_le (by omega)]
theorem ex_list (b : ByteArray) (s e : Nat) : (b.extract s e).data.toList = (b.data.toList.drop s).take (e - s) := by
 rw [ByteArray.data_extract, Array.toList_extract]
theorem ex_size (b : ByteArray) (s e : Nat) (h : e ≤ b.size) : (b.extract s e).size = e - s := by
 have : (b.extract s e).data.toList.length = (b.extract s e).size := Array.length_toList
 have hb : b.data.toList.length = b.size := Array.length_toList
 rw [← this, ex_list, List.length_take, List.length_drop]; omega
theorem all_ex {b : ByteArray} (h : b.data.toList.all okC = true) (s e : Nat) : (b.extract s e).data.toList.all okC = true := by
 rw [ex_list]
 rw [List.all_eq_true] at h ⊢
 exact fun x hx => h x (List.mem_of_mem_drop (List.mem_of_mem_take hx))
theorem sought_call {rows : ByteArray} {n a : Nat} (hn : rows.size = 11 * n) (hs : n ≤ 1000) (hok : rows.data.toList.all okC = true) (hT : srt 0 (rowsN n rows.data.toList) = true) {K : Int → World → Prop}
  (hK : ∀ w', Ext w w' → K ((lkup (rowsN n rows.data.toList) a : Nat) : Int) w') : callT Tryz.prog 150 #[.string rows, .int .i64 (a : Int)] (.one (.one (.int .i64))) K w := by
 refine F150_calls ?_
 unfold F150
 refine chk_r (by decide) ?_
 have e0 : IntKind.wrap .i64 (Int.tdiv ((ByteArray.size rows : Nat) : Int) 11) = (n : Int) := by
  rw [hn, Int.tdiv_eq_ediv_of_nonneg (by omega), wrap64 (by omega) (by omega)]; omega
 rw [e0]
 refine join_r (fun _ w' => Ext w w' ∧ lkup (rowsN n rows.data.toList) a = 0) ?_ (fun _ w' h => by have := hK w' h.1; rwa [h.2] at this)
 refine sloop_r (fun x W => ∃ lo hi : Nat, x = ((lo : Int), (hi : Int), ()) ∧ lo ≤ hi ∧ hi ≤ n ∧ Ext w W ∧ (∀ (i : Nat) (r : Row), i < lo → (rowsN n rows.data.toList)[i]? = some r → r.hi < a) ∧ (∀ (i : Nat) (r : Row), hi ≤ i → (rowsN n rows.data.toList)[i]? = some r → a < r.lo)) (fun x _ => (x.2.1 - x.1).toNat)
  ⟨0, n, rfl, Nat.zero_le _, Nat.le_refl _, Ext.refl w, fun i r h => absurd h (Nat.not_lt_zero _), fun i r h hr => by
   have := (List.getElem?_eq_some_iff.1 hr).1
   rw [rowsN_len] at this; omega⟩ ?_
 rintro _ W ⟨lo, hi, rfl, hlh, hhn, e1, h1, h2⟩
 dsimp only
 refine sif_r (fun hc => ?_) (fun hc => ?_)
 ·simp only [decide_eq_true_eq] at hc
  obtain ⟨m, hm⟩ : ∃ m, m = (lo + hi) / 2 := ⟨_, rfl⟩
  have hmn : m < n := by omega
  have em : IntKind.wrap .i64 (Int.tdiv (IntKind.wrap .i64 ((lo : Int) + (hi : Int))) 2) = (m : Int) := by
   rw [wrap64 (a := (lo : Int) + (hi : Int)) (by omega) (by omega), Int.tdiv_eq_ediv_of_nonneg (by omega), wrap64 (by omega) (by omega)]; omega
  have em1 : IntKind.wrap .i64 ((m : Int) + 1) = ((m + 1 : Nat) : Int) := by rw [wrap64 (by omega) (by omega)]; omega
  have e11 : IntKind.wrap .i64 ((m : Int) * 11) = ((11 * m : Nat) : Int) := by rw [wrap64 (by omega) (by omega)]; omega
  have e12 : IntKind.wrap .i64 (((m + 1 : Nat) : Int) * 11) = ((11 * m + 11 : Nat) : Int) := by rw [wrap64 (by omega) (by omega)]; omega
  rw [em, em1, e11, e12]
  simp only [Int.toNat_natCast]
  have sz : (rows.extract (11 * m) (11 * m + 11)).size = 11 := by rw [ex_size _ _ _ (by omega)]; omega
  rw [sz]
  have ll : (rows.extract (11 * m) (11 * m + 11)).data.toList = (rows.data.toList.drop (11 * m)).take 11 := by rw [ex_list]; congr 1; omega
  have hrow := rowsN_get n rows.data.toList m hmn
  have p1 : ((rows.extract (11 * m) (11 * m + 11)).extract (Int.toNat 0) (Int.toNat (5 : Int))).data.toList = (rows.data.toList.drop (11 * m)).take 5 := by
   rw [ex_list, ll]; show List.take 5 (List.drop 0 _) = _
   rw [List.drop_zero, List.take_take]; rfl
  have p2 : ((rows.extract (11 * m) (11 * m + 11)).extract (Int.toNat (5 : Int)) (Int.toNat (10 : Int))).data.toList = (rows.data.toList.drop (11 * m + 5)).take 5 := by
   rw [ex_list, ll]; show List.take 5 (List.drop 5 _) = _
   rw [List.drop_take, List.take_take, List.drop_drop]; rfl
  have p3 : ((rows.extract (11 * m) (11 * m + 11)).extract (Int.toNat (10 : Int)) 11).data.toList = (rows.data.toList.drop (11 * m + 10)).take 1 := by
   rw [ex_list, ll]; show List.take 1 (List.drop 10 _) = _
   rw [List.drop_take, List.take_take, List.drop_drop]; rfl
  have z1 : ((rows.extract (11 * m) (11 * m + 11)).extract (Int.toNat 0) (Int.toNat (5 : Int))).size ≤ 5 := by rw [ex_size _ _ _ (by rw [sz]; decide)]; decide
  have z2 : ((rows.extract (11 * m) (11 * m + 11)).extract (Int.toNat (5 : Int)) (Int.toNat (10 : Int))).size ≤ 5 := by rw [ex_size _ _ _ (by rw [sz]; decide)]; decide
  have z3 : ((rows.extract (11 * m) (11 * m + 11)).extract (Int.toNat (10 : Int)) 11).size ≤ 5 := by rw [ex_size _ _ _ (by rw [sz]; decide)]; decide
  refine chk_r (by decide) (chk_r (by omega) (chk_r (by omega) (number_call (all_ex (all_ex hok _ _) _ _) z1 fun w2 x2 => ?_)))
  rw [p1]
  refine sif_r (fun hlt => ?_) (fun hlt => ?_)
  ·simp only [decide_eq_true_eq] at hlt
   refine ⟨⟨lo, m, rfl, by omega, by omega, e1.trans x2, h1, fun i r hi hr => ?_⟩, by omega⟩
   rcases Nat.lt_or_ge m i with hmi | hmi
   ·have := srt_lt hT hmi hrow hr
    have := (srt_get hT hrow).2
    simp only at *; omega
   ·have : i = m := by omega
    subst this
    rw [hrow] at hr; cases hr
    simp only; omega
  ·simp only [decide_eq_false_iff_not] at hlt
   refine chk_r (by omega) (number_call (all_ex (all_ex hok _ _) _ _) z2 fun w3 x3 => ?_)
   rw [p2]
   refine sif_r (fun hgt => ?_) (fun hgt => ?_)
   ·simp only [decide_eq_true_eq, gt_iff_lt] at hgt
    refine ⟨⟨m + 1, hi, rfl, by omega, hhn, (e1.trans x2).trans x3, fun i r hi hr => ?_, h2⟩, by omega⟩
    rcases Nat.lt_or_ge i m with hmi | hmi
    ·have := srt_lt hT hmi hr hrow
     have := (srt_get hT hrow).2
     simp only at *; omega
    ·have : i = m := by omega
     subst this
     rw [hrow] at hr; cases hr
     simp only; omega
   ·simp only [decide_eq_false_iff_not, gt_iff_lt] at hgt
    refine chk_r (by omega) (number_call (all_ex (all_ex hok _ _) _ _) z3 fun w4 x4 => ?_)
    rw [p3]
    have := hK w4 (((e1.trans x2).trans x3).trans x4)
    rw [lkup_at hT hrow (by simp only; omega) (by simp only; omega)] at this
    exact this
 ·simp only [decide_eq_false_iff_not] at hc
  refine ⟨e1, lkup_none fun i r hr => ?_⟩
  rcases Nat.lt_or_ge i lo with h | h
  ·exact .inr (h1 i r h hr)
  ·exact .inl (h2 i r (by omega) hr)
theorem cls_ok : bs_88441808.size = 11 * 324 ∧ bs_88441808.data.toList.all okC = true ∧ srt 0 clsT = true := ⟨by kernel_rfl, by kernel_rfl, by kernel_rfl⟩
theorem cnj_ok : bs_29aed6ba.size = 11 * 26 ∧ bs_29aed6ba.data.toList.all okC = true ∧ srt 0 cnjT = true := ⟨by kernel_rfl, by kernel_rfl, by kernel_rfl⟩
theorem wrd_ok : bs_94cae01e.size = 11 * 81 ∧ bs_94cae01e.data.toList.all okC = true ∧ srt 0 wrdT = true := ⟨by kernel_rfl, by kernel_rfl, by kernel_rfl⟩
theorem Scalar_nat {a : Int} (h : Scalar a) : ∃ n : Nat, a = (n : Int) ∧ n ≤ 1114111 := ⟨a.toNat, by rcases h with h | h <;> omega, by rcases h with h | h <;> omega⟩
theorem class_call {a : Int} {K : Int → World → Prop} (hK : ∀ w', Ext w w' → K ((cls a : Nat) : Int) w') : callT Tryz.prog 116 #[.int .i64 a] (.one (.one (.int .i64))) K w := by
 refine F116_calls ?_
 unfold F116
 refine gscalar_call (sif_r (fun h => ?_) (fun h => ?_))
 ·simp only [Bool.not_eq_true', decide_eq_false_iff_not] at h
  have := hK w (Ext.refl w)
  unfold cls at this
  rw [if_neg h] at this
  exact this
 simp only [Bool.not_eq_false', decide_eq_true_eq] at h
 obtain ⟨n, rfl, hn⟩ := Scalar_nat h
 unfold cls at hK
 rw [if_pos h] at hK
 have ew : IntKind.wrap .i64 ((n : Int) - 44032) = (n : Int) - 44032 := wrap64 (by omega) (by omega)
 rw [ew]
 refine join_r (fun x w' => x = (decide (44032 ≤ n ∧ n < 55204), ()) ∧ w = w') ?_ ?_
 ·refine sif_r (fun hg => ⟨tupb ?_, rfl⟩) (fun hg => ⟨tupb ?_, rfl⟩)
  ·simp only [decide_eq_true_eq, ge_iff_le] at hg ⊢; omega
  ·simp only [decide_eq_false_iff_not, decide_eq_true_eq, ge_iff_le] at hg ⊢
   exact ⟨(fun h => by cases h), fun h => by omega⟩
 rintro _ _ ⟨rfl, rfl⟩
 refine sif_r (fun hg => ?_) (fun hg => ?_)
 ·simp only [decide_eq_true_eq] at hg
  refine chk_r (by decide) ?_
  have e1 : Int.tmod ((n : Int) - 44032) 28 = (((n - 44032) % 28 : Nat) : Int) := by rw [Int.tmod_eq_emod_of_nonneg (by omega)]; omega
  rw [e1]
  have := hK w (Ext.refl w)
  rw [if_pos (by omega), Int.toNat_natCast] at this
  refine sif_r (fun h0 => ?_) (fun h0 => ?_)
  ·simp only [beq_iff_eq] at h0
   rw [if_pos (by omega)] at this; exact this
  ·simp only [beq_eq_false_iff_ne] at h0
   rw [if_neg (by omega)] at this; exact this
 ·simp only [decide_eq_false_iff_not] at hg
  rw [if_neg (by omega), Int.toNat_natCast] at hK
  exact sought_call cls_ok.1 (by decide) cls_ok.2.1 cls_ok.2.2 fun w1 x1 => hK w1 x1
theorem conjunct_call {a : Int} {K : Int → World → Prop} (hK : ∀ w', Ext w w' → K ((cnj a : Nat) : Int) w') : callT Tryz.prog 117 #[.int .i64 a] (.one (.one (.int .i64))) K w := by
 refine F117_calls ?_
 unfold F117
 unfold cnj at hK
 refine join_r (fun x w' => x = (decide (a = 2381 ∨ a = 2509 ∨ a = 2765 ∨ a = 2893 ∨ a = 3149 ∨ a = 3405), ()) ∧ w = w') ?_ ?_
 ·refine sif_r (fun h => ⟨tupb ?_, rfl⟩) (fun h1 => sif_r (fun h => ⟨tupb ?_, rfl⟩) (fun h2 => sif_r (fun h => ⟨tupb ?_, rfl⟩) (fun h3 => sif_r (fun h => ⟨tupb ?_, rfl⟩) (fun h4 => sif_r (fun h => ⟨tupb ?_, rfl⟩) (fun h5 => ⟨tupb ?_, rfl⟩)))))
  all_goals simp only [beq_iff_eq, beq_eq_false_iff_ne, ne_eq, decide_eq_true_eq] at *
  all_goals omega
 rintro _ _ ⟨rfl, rfl⟩
 refine sif_r (fun h => ?_) (fun h => ?_)
 ·simp only [decide_eq_true_eq] at h
  rw [if_pos h] at hK
  exact hK _ (Ext.refl _)
 simp only [decide_eq_false_iff_not] at h
 rw [if_neg h] at hK
 refine sif_r (fun h2 => ?_) (fun h2 => ?_)
 ·simp only [beq_iff_eq] at h2
  rw [if_pos h2] at hK
  exact hK _ (Ext.refl _)
 simp only [beq_eq_false_iff_ne, ne_eq] at h2
 rw [if_neg h2] at hK
 refine join_r (fun _ w1 => Ext w w1 ∧ ¬ (cls a = 4 ∨ cls a = 5) ∧ ¬ (cls a = 0 ∧ Scalar a)) ?_ (fun _ w1 h3 => by
  have := hK w1 h3.1
  rw [if_neg h3.2.1, if_neg h3.2.2] at this
  exact this)
 refine class_call fun w1 e1 => join_r (fun x w2 => x = (decide (cls a = 4 ∨ cls a = 5), ()) ∧ w1 = w2) ?_ ?_
 ·refine sif_r (fun h => ⟨tupb ?_, rfl⟩) (fun h => ⟨tupb ?_, rfl⟩)
  all_goals simp only [beq_iff_eq, beq_eq_false_iff_ne, ne_eq, decide_eq_true_eq] at *
  all_goals omega
 rintro _ _ ⟨rfl, rfl⟩
 refine sif_r (fun h => ?_) (fun h3 => ?_)
 ·simp only [decide_eq_true_eq] at h
  rw [if_pos h] at hK
  exact hK _ e1
 simp only [decide_eq_false_iff_not] at h3
 rw [if_neg h3] at hK
 refine sif_r (fun h4 => ?_) (fun h4 => ?_)
 ·simp only [beq_iff_eq] at h4
  refine gscalar_call (sif_r (fun h5 => ?_) (fun h5 => ?_))
  ·simp only [decide_eq_true_eq] at h5
   rw [if_pos ⟨by omega, h5⟩] at hK
   obtain ⟨n, rfl, hn⟩ := Scalar_nat h5
   rw [Int.toNat_natCast] at hK
   exact sought_call cnj_ok.1 (by decide) cnj_ok.2.1 cnj_ok.2.2 fun w2 x2 => hK w2 (e1.trans x2)
  ·simp only [decide_eq_false_iff_not] at h5
   exact ⟨e1, h3, fun h => h5 h.2⟩
 ·simp only [beq_eq_false_iff_ne, ne_eq] at h4
  exact ⟨e1, h3, fun h => h4 (by rw [h.1]; rfl)⟩
theorem word_call {a : Int} {K : Int → World → Prop} (hK : ∀ w', Ext w w' → K ((wrd a : Nat) : Int) w') : callT Tryz.prog 158 #[.int .i64 a] (.one (.one (.int .i64))) K w := by
 refine F158_calls ?_
 unfold F158
 unfold wrd at hK
 refine gscalar_call (sif_r (fun h => ?_) (fun h => ?_))
 ·simp only [Bool.not_eq_true', decide_eq_false_iff_not] at h
  have := hK w (Ext.refl w)
  rw [if_neg h] at this
  exact this
 simp only [Bool.not_eq_false', decide_eq_true_eq] at h
 rw [if_pos h] at hK
 obtain ⟨n, rfl, hn⟩ := Scalar_nat h
 rw [Int.toNat_natCast] at hK
 refine sought_call wrd_ok.1 (by decide) wrd_ok.2.1 wrd_ok.2.2 fun w1 x1 => ?_
 have := hK w1 x1
 show sif (((lkup wrdT n : Nat) : Int) == 2) _ _ w1
 refine sif_r (fun h2 => ?_) (fun h2 => ?_)
 ·simp only [beq_iff_eq] at h2
  rw [if_pos (by omega)] at this
  exact this
 ·simp only [beq_eq_false_iff_ne, ne_eq] at h2
  rw [if_neg (by omega)] at this
  show sif (((lkup wrdT n : Nat) : Int) == 1) _ _ w1
  refine sif_r (fun h3 => ?_) (fun h3 => ?_)
  ·simp only [beq_iff_eq] at h3
   rw [if_pos (by omega)] at this
   exact this
  ·simp only [beq_eq_false_iff_ne, ne_eq] at h3
   rw [if_neg (by omega)] at this
   exact this
end
end Go.Proofs.YtolhlldgnfbemaaGreat
namespace Go.Proofs.YtolhlldgnfbemaaGreat
open Go Go.Vx
namespace Trx
structure Sums where
 atoms : Nat
 bytes : Nat
 breaks : Nat
 lf : Bool
 cr : Bool
 deriving DecidableEq
structure Sums.Ok (s : Sums) : Prop where
 brk : s.breaks ≤ s.atoms
 byt : s.atoms ≤ s.bytes
 lf : s.lf = true → 1 ≤ s.breaks
 cr : s.cr = true → 1 ≤ s.breaks
 nil : s.atoms = 0 → s = ⟨0, 0, 0, false, false⟩
def Sums.zero : Sums := ⟨0, 0, 0, false, false⟩
def Sums.add (s o : Sums) : Sums :=
 if s.atoms = 0 then o else if o.atoms = 0 then s else
  ⟨s.atoms + o.atoms, s.bytes + o.bytes, s.breaks + o.breaks - (if s.cr && o.lf then 1 else 0), s.lf, o.cr⟩
theorem Sums.zero_ok : Sums.zero.Ok := ⟨Nat.le_refl _, Nat.le_refl _, (fun h => by cases h), (fun h => by cases h), fun _ => rfl⟩
theorem Sums.add_zero {s : Sums} (h : s.Ok) : s.add .zero = s := by
 unfold Sums.add Sums.zero
 split
 ·rename_i h0; rw [h.nil h0]
 ·rfl
theorem Sums.add_ok {s o : Sums} (h : s.Ok) (h' : o.Ok) : (s.add o).Ok := by
 unfold Sums.add
 split
 ·exact h'
 ·split
  ·exact h
  ·have := h.brk; have := h.byt; have := h'.brk; have := h'.byt
   have h1 := h.lf; have h2 := h'.cr; have h3 := h.cr; have h4 := h'.lf
   refine ⟨?_, ?_, ?_, ?_, ?_⟩
   ·show s.breaks + o.breaks - _ ≤ s.atoms + o.atoms
    omega
   ·show s.atoms + o.atoms ≤ s.bytes + o.bytes
    omega
   ·show s.lf = true → 1 ≤ s.breaks + o.breaks - _
    intro e
    have := h1 e
    split
    ·rename_i hc
     simp only [Bool.and_eq_true] at hc
     have := h4 hc.2
     omega
    ·omega
   ·show o.cr = true → 1 ≤ s.breaks + o.breaks - _
    intro e
    have := h2 e
    split
    ·rename_i hc
     simp only [Bool.and_eq_true] at hc
     have := h3 hc.1
     omega
    ·omega
   ·intro e
    have : s.atoms + o.atoms = 0 := e
    omega
theorem Sums.add_assoc {a b c : Sums} (ha : a.Ok) (hb : b.Ok) (hc : c.Ok) : (a.add b).add c = a.add (b.add c) := by
 by_cases h1 : a.atoms = 0
 ·have := ha.nil h1; subst this; rfl
 by_cases h2 : b.atoms = 0
 ·have := hb.nil h2; subst this
  have e := Sums.add_zero ha
  unfold Sums.zero at e
  rw [e]; rfl
 by_cases h3 : c.atoms = 0
 ·have := hc.nil h3; subst this
  have e := Sums.add_zero (Sums.add_ok ha hb)
  have e' := Sums.add_zero hb
  unfold Sums.zero at e e'
  rw [e, e']
 have h12 : ¬ a.atoms + b.atoms = 0 := by omega
 have h23 : ¬ b.atoms + c.atoms = 0 := by omega
 simp only [Sums.add, if_neg h1, if_neg h2, if_neg h3, if_neg h12, if_neg h23]
 have a1 : (if a.cr = true then 1 else 0) ≤ a.breaks := by split; exact ha.cr ‹_›; omega
 have b1 : (if b.lf = true then 1 else 0) ≤ b.breaks := by split; exact hb.lf ‹_›; omega
 have b2 : (if b.cr = true then 1 else 0) ≤ b.breaks := by split; exact hb.cr ‹_›; omega
 have c1 : (if c.lf = true then 1 else 0) ≤ c.breaks := by split; exact hc.lf ‹_›; omega
 refine (Sums.mk.injEq ..).mpr ⟨by omega, by omega, ?_, rfl, rfl⟩
 cases h5 : a.cr <;> cases h6 : b.lf <;> cases h7 : b.cr <;> cases h8 : c.lf <;> simp only [h5, h6, h7, h8, Bool.and_true, Bool.and_false, Bool.and_self, if_true, if_false, Bool.false_eq_true, reduceIte] at a1 b1 b2 c1 ⊢ <;> omega
theorem Sums.add_bytes (s o : Sums) (h : s.Ok) (h' : o.Ok) : (s.add o).bytes = s.bytes + o.bytes ∧ (s.add o).atoms = s.atoms + o.atoms := by
 unfold Sums.add
 split
 ·rename_i h0; rw [h.nil h0]; simp
 ·split
  ·rename_i h0; rw [h'.nil h0]; simp
  ·exact ⟨rfl, rfl⟩
structure Pc where
 bytes : Sl
 tag : Int
 sm : Sums
def Pc.zero : Pc := ⟨⟨none, 0, 0⟩, 0, .zero⟩
inductive Tr where
 | nil
 | node (b : Nat) (l : Tr) (x : Pc) (r : Tr)
def Tr.ptr : Tr → Option Addr
 | .nil => none
 | .node b _ _ _ => some (at0 b)
def Tr.size : Tr → Nat
 | .nil => 0
 | .node _ l _ r => l.size + 1 + r.size
def Tr.tall : Tr → Nat
 | .nil => 0
 | .node _ l _ r => max l.tall r.tall + 1
def Tr.items : Tr → List Pc
 | .nil => []
 | .node _ l x r => l.items ++ x :: r.items
def tot (l : List Pc) : Sums := l.foldr (fun x s => x.sm.add s) .zero
def AllOk (l : List Pc) : Prop := ∀ x ∈ l, x.sm.Ok
theorem tot_ok : ∀ {l : List Pc}, AllOk l → (tot l).Ok
 | [], _ => Sums.zero_ok
 | x :: r, h => Sums.add_ok (h x List.mem_cons_self) (tot_ok fun y hy => h y (List.mem_cons_of_mem _ hy))
theorem tot_append : ∀ {l m : List Pc}, AllOk l → AllOk m → tot (l ++ m) = (tot l).add (tot m)
 | [], m, _, _ => rfl
 | x :: r, m, h, h' => by
  have hr : AllOk r := fun y hy => h y (List.mem_cons_of_mem _ hy)
  show x.sm.add (tot (r ++ m)) = (x.sm.add (tot r)).add (tot m)
  rw [tot_append hr h', Sums.add_assoc (h x List.mem_cons_self) (tot_ok hr) (tot_ok h')]
theorem tot_one {x : Pc} (h : x.sm.Ok) : tot [x] = x.sm := Sums.add_zero h
theorem size_items : ∀ t : Tr, t.items.length = t.size
 | .nil => rfl
 | .node _ l x r => by
  simp only [Tr.items, Tr.size, List.length_append, List.length_cons, size_items l, size_items r]; omega
theorem tall_le : ∀ t : Tr, t.tall ≤ t.size
 | .nil => Nat.le_refl _
 | .node _ l x r => by
  have := tall_le l; have := tall_le r
  simp only [Tr.tall, Tr.size]; omega
theorem tall_pos {t : Tr} (h : 0 < t.tall) : ∃ b l x r, t = .node b l x r := by
 cases t with
 | nil => exact absurd h (by decide)
 | node b l x r => exact ⟨b, l, x, r, rfl⟩
theorem AllOk.left {l m : List Pc} (h : AllOk (l ++ m)) : AllOk l := fun x hx => h x (List.mem_append_left _ hx)
theorem AllOk.right {l m : List Pc} (h : AllOk (l ++ m)) : AllOk m := fun x hx => h x (List.mem_append_right _ hx)
theorem AllOk.append {l m : List Pc} (h : AllOk l) (h' : AllOk m) : AllOk (l ++ m) := fun x hx => (List.mem_append.1 hx).elim (h x) (h' x)
theorem AllOk.cons {x : Pc} {m : List Pc} (h : x.sm.Ok) (h' : AllOk m) : AllOk (x :: m) := fun y hy => (List.mem_cons.1 hy).elim (fun e => e ▸ h) (h' y)
theorem AllOk.one {x : Pc} (h : x.sm.Ok) : AllOk [x] := fun y hy => by rw [List.mem_singleton.1 hy]; exact h
theorem AllOk.head {x : Pc} {m : List Pc} (h : AllOk (x :: m)) : x.sm.Ok := h x List.mem_cons_self
theorem AllOk.tail {x : Pc} {m : List Pc} (h : AllOk (x :: m)) : AllOk m := fun y hy => h y (List.mem_cons_of_mem _ hy)
end Trx
end Go.Proofs.YtolhlldgnfbemaaGreat
namespace Go.Proofs.YtolhlldgnfbemaaGreat
open Cdc Trx
namespace Trx
def one1 (a : Int) (n : Nat) : Sums := ⟨1, n, if a = 10 ∨ a = 13 then 1 else 0, a == 10, a == 13⟩
theorem one1_ok (a : Int) {n : Nat} (h : 1 ≤ n) : (one1 a n).Ok := by
 refine ⟨?_, h, ?_, ?_, ?_⟩
 ·show (if a = 10 ∨ a = 13 then 1 else 0) ≤ 1
  split <;> omega
 ·intro e
  have : a = 10 := by simpa [one1] using e
  show 1 ≤ if a = 10 ∨ a = 13 then 1 else 0
  rw [if_pos (.inl this)]; omega
 ·intro e
  have : a = 13 := by simpa [one1] using e
  show 1 ≤ if a = 10 ∨ a = 13 then 1 else 0
  rw [if_pos (.inr this)]; omega
 ·intro e; exact absurd e (by show ¬ 1 = 0; omega)
abbrev As := List (Int × Nat)
def Posd (l : As) : Prop := ∀ x ∈ l, 1 ≤ x.2
theorem Posd.tail {x : Int × Nat} {l : As} (h : Posd (x :: l)) : Posd l := fun y hy => h y (List.mem_cons_of_mem _ hy)
theorem Posd.app {l m : As} (h : Posd l) (h' : Posd m) : Posd (l ++ m) := fun y hy => (List.mem_append.1 hy).elim (h y) (h' y)
theorem Posd.take {l : As} (h : Posd l) (n : Nat) : Posd (l.take n) := fun y hy => h y (List.mem_of_mem_take hy)
theorem Posd.drop {l : As} (h : Posd l) (n : Nat) : Posd (l.drop n) := fun y hy => h y (List.mem_of_mem_drop hy)
theorem ats_posd (e : Enc) (l : Bs) : Posd (ats e l) := fun x hx => (ats_pos e _ l (Nat.le_refl _) x hx).1
def msr : As → Sums
 | [] => .zero
 | x :: r => (one1 x.1 x.2).add (msr r)
theorem msr_ok : ∀ {l : As}, Posd l → (msr l).Ok
 | [], _ => Sums.zero_ok
 | x :: r, h => Sums.add_ok (one1_ok _ (h x List.mem_cons_self)) (msr_ok h.tail)
theorem msr_append : ∀ {l m : As}, Posd l → Posd m → msr (l ++ m) = (msr l).add (msr m)
 | [], m, _, _ => rfl
 | x :: r, m, h, h' => by
  show (one1 x.1 x.2).add (msr (r ++ m)) = ((one1 x.1 x.2).add (msr r)).add (msr m)
  rw [msr_append h.tail h', Sums.add_assoc (one1_ok _ (h x List.mem_cons_self)) (msr_ok h.tail) (msr_ok h')]
theorem msr_one (a : Int) {n : Nat} (h : 1 ≤ n) : msr [(a, n)] = one1 a n := Sums.add_zero (one1_ok a h)
theorem msr_atoms : ∀ {l : As}, Posd l → (msr l).atoms = l.length
 | [], _ => rfl
 | x :: r, h => by
  have := (Sums.add_bytes _ _ (one1_ok x.1 (h x List.mem_cons_self)) (msr_ok h.tail)).2
  show ((one1 x.1 x.2).add (msr r)).atoms = _
  rw [this, msr_atoms h.tail, List.length_cons]
  show 1 + _ = _; omega
theorem msr_bytes : ∀ {l : As}, Posd l → (msr l).bytes = szs l
 | [], _ => rfl
 | x :: r, h => by
  have := (Sums.add_bytes _ _ (one1_ok x.1 (h x List.mem_cons_self)) (msr_ok h.tail)).1
  show ((one1 x.1 x.2).add (msr r)).bytes = _
  rw [this, msr_bytes h.tail, szs_cons]; rfl
def isE (a : Int) (r : List Int) : Bool := a == 10 || (a == 13 && r.head? != some 10)
def brs : List Int → Nat
 | [] => 0
 | a :: r => (if isE a r then 1 else 0) + brs r
def nb : List Int → Nat → Nat
 | [], _ => 0
 | _ :: _, 0 => 0
 | a :: r, n + 1 => (if isE a r then 1 else 0) + nb r n
def sk : List Int → Nat → Option Nat
 | _, 0 => some 0
 | [], _ + 1 => none
 | a :: r, k + 1 => (sk r (if isE a r then k else k + 1)).map (· + 1)
abbrev atoms (l : As) : List Int := l.map (·.1)
theorem msr_lf : ∀ {l : As}, Posd l → (msr l).lf = ((atoms l).head? == some 10)
 | [], _ => rfl
 | x :: r, h => by
  show ((one1 x.1 x.2).add (msr r)).lf = _
  unfold Sums.add
  rw [if_neg (show ¬ (one1 x.1 x.2).atoms = 0 by show ¬ 1 = 0; omega)]
  split <;> (simp [one1, atoms]; done)
theorem msr_cr : ∀ {l : As}, Posd l → (msr l).cr = ((atoms l).getLast? == some 13)
 | [], _ => rfl
 | [x], h => by rw [msr_one x.1 (h x List.mem_cons_self)]; simp [one1, atoms]
 | x :: y :: r, h => by
  have ih := msr_cr h.tail
  have ha := msr_atoms h.tail
  show ((one1 x.1 x.2).add (msr (y :: r))).cr = _
  unfold Sums.add
  rw [if_neg (show ¬ (one1 x.1 x.2).atoms = 0 by show ¬ 1 = 0; omega), if_neg (show ¬ (msr (y :: r)).atoms = 0 by rw [ha]; simp)]
  show (msr (y :: r)).cr = _
  rw [ih]
  simp [atoms]
theorem brk_arith (a : Int) (g : Bool) (n : Nat) (h : g = true → 1 ≤ n) : (if a = 10 ∨ a = 13 then 1 else 0) + n - (if ((a == 13) && g) = true then 1 else 0) = (if (a == 10 || (a == 13 && !g)) = true then 1 else 0) + n := by
 by_cases h10 : a = 10
 ·simp [h10]
 ·by_cases h13 : a = 13
  ·cases g with
   | true =>
    have := h rfl
    simp [h13]
   | false => simp [h13]
  ·simp [h10, h13]
theorem msr_breaks : ∀ {l : As}, Posd l → (msr l).breaks = brs (atoms l)
 | [], _ => rfl
 | x :: r, h => by
  have ih := msr_breaks h.tail
  have hlf := msr_lf h.tail
  have ha := msr_atoms h.tail
  have hok := msr_ok h.tail
  show ((one1 x.1 x.2).add (msr r)).breaks = (if isE x.1 (atoms r) then 1 else 0) + brs (atoms r)
  unfold Sums.add
  rw [if_neg (show ¬ (one1 x.1 x.2).atoms = 0 by show ¬ 1 = 0; omega)]
  split
  ·rename_i h0
   have : r = [] := by rw [ha] at h0; exact List.length_eq_zero_iff.1 h0
   subst this
   show (if x.1 = 10 ∨ x.1 = 13 then 1 else 0) = _
   simp [isE, brs]
  ·show (if x.1 = 10 ∨ x.1 = 13 then 1 else 0) + (msr r).breaks - (if (x.1 == 13) && (msr r).lf then 1 else 0) = _
   have := hok.lf
   rw [ih] at this ⊢
   rw [hlf] at this ⊢
   exact brk_arith x.1 _ _ this
theorem brs_nb : ∀ (l : List Int), brs l = nb l l.length
 | [] => rfl
 | a :: r => by rw [brs, List.length_cons, nb, brs_nb r]
theorem nb_ge : ∀ (l : List Int) (n : Nat), l.length ≤ n → nb l n = brs l
 | [], n, _ => by cases n <;> rfl
 | a :: r, 0, h => by simp at h
 | a :: r, n + 1, h => by rw [nb, brs, nb_ge r n (by simpa using h)]
theorem nb_zero (l : List Int) : nb l 0 = 0 := by cases l <;> rfl
def split13 (l : List Int) (n : Nat) : Bool := (0 < n) && l[n - 1]? == some 13 && l[n]? == some 10
theorem brs_take : ∀ (l : List Int) (n : Nat), brs (l.take n) = nb l n + (if split13 l n then 1 else 0)
 | [], n => by cases n <;> simp [brs, nb, split13]
 | a :: r, 0 => by simp [brs, nb, split13]
 | a :: r, 1 => by
  simp only [List.take_succ_cons, List.take_zero, brs, nb, nb_zero]
  unfold isE split13
  by_cases h10 : a = 10
  ·simp [h10]
  ·by_cases h13 : a = 13
   ·subst h13
    cases r with
    | nil => simp
    | cons b r => by_cases hb : b = 10 <;> simp [hb]
   ·simp [h10, h13]
 | a :: r, n + 2 => by
  have ih := brs_take r (n + 1)
  simp only [List.take_succ_cons, brs, nb]
  have e1 : isE a (r.take (n + 1)) = isE a r := by
   unfold isE
   cases r <;> simp
  have e2 : split13 (a :: r) (n + 2) = split13 r (n + 1) := by
   unfold split13
   simp
  rw [e1, ih, e2]; omega
theorem sk_of : ∀ (l : List Int) (k m : Nat), 1 ≤ k → m ≤ l.length → k ≤ brs (l.take m) → (∀ j, j < m → brs (l.take j) < k) → sk l k = some (if split13 l m then m + 1 else m)
 | [], k, m, hk, hm, h1, _ => by
  have : m = 0 := by simpa using hm
  subst this; simp [brs] at h1; omega
 | a :: r, k, 0, hk, _, h1, _ => by simp [brs] at h1; omega
 | a :: r, k, 1, hk, _, h1, _ => by
  simp only [List.take_succ_cons, List.take_zero, brs] at h1
  have hk1 : k = 1 := by split at h1 <;> omega
  subst hk1
  have ha : isE a [] = true := by
   by_cases h : isE a [] = true
   ·exact h
   ·rw [if_neg h] at h1; omega
  rw [sk]
  unfold isE at ha
  simp at ha
  by_cases h10 : a = 10
  ·subst h10; simp [isE, sk, split13]
  ·have h13 : a = 13 := ha.resolve_left h10
   subst h13
   cases r with
   | nil => simp [isE, sk, split13]
   | cons b r =>
    by_cases hb : b = 10
    ·subst hb; simp [isE, sk, split13]
    ·have : ¬ (some b = some (10 : Int)) := by simpa using hb
     simp [isE, sk, split13, hb]
 | a :: r, k, m + 2, hk, hm, h1, h0 => by
  obtain ⟨k', rfl⟩ : ∃ k', k = k' + 1 := ⟨k - 1, by omega⟩
  have e1 : ∀ j, isE a (r.take (j + 1)) = isE a r := by
   intro j; unfold isE
   cases r <;> simp
  have e2 : split13 (a :: r) (m + 2) = split13 r (m + 1) := by
   unfold split13
   simp
  have hE1 : (if isE a [] then 1 else 0) < k' + 1 := by
   have := h0 1 (by omega)
   simpa [brs] using this
  have hm' : m + 1 ≤ r.length := by simp at hm; omega
  simp only [List.take_succ_cons, brs, e1] at h1
  have h0' : ∀ j, j < m + 1 → (if isE a (r.take j) then 1 else 0) + brs (r.take j) < k' + 1 := by
   intro j hj
   have := h0 (j + 1) (by omega)
   simpa [List.take_succ_cons, brs] using this
  rw [sk, e2]
  have hle : isE a r = true → isE a [] = true := by
   unfold isE; simp; intro h; rcases h with h | h
   ·exact .inl h
   ·exact .inr h.1
  cases hE : isE a r with
  | true =>
   rw [hE] at h1
   have hk1 : 1 ≤ k' := by rw [hle hE] at hE1; simp at hE1; omega
   rw [if_pos rfl]
   have := sk_of r k' (m + 1) hk1 hm' (by simp at h1; omega) (fun j hj => by
    cases j with
    | zero => simp [brs]; omega
    | succ j => have := h0' (j + 1) hj; rw [e1, hE] at this; simp at this; omega)
   rw [this]
   split <;> simp
  | false =>
   rw [hE] at h1
   simp only [Bool.false_eq_true, if_false]
   have := sk_of r (k' + 1) (m + 1) (by omega) hm' (by simpa using h1) (fun j hj => by
    cases j with
    | zero => simp [brs]
    | succ j => have := h0' (j + 1) hj; rw [e1, hE] at this; simpa using this)
   rw [this]
   split <;> simp
theorem sk_none : ∀ (l : List Int) (k : Nat), brs l < k → sk l k = none
 | [], 0, h => by simp at h
 | [], k + 1, _ => rfl
 | a :: r, 0, h => by omega
 | a :: r, k + 1, h => by
  rw [sk, sk_none r _ (by rw [brs] at h; split <;> simp_all <;> omega)]
  rfl
theorem sk_some : ∀ (l : List Int) (k : Nat), k ≤ brs l → ∃ m, sk l k = some m ∧ m ≤ l.length ∧ nb l m = k ∧ ∀ j, j < m → nb l j < k
 | l, 0, _ => ⟨0, by cases l <;> rfl, Nat.zero_le _, nb_zero l, fun j h => by omega⟩
 | [], k + 1, h => by simp [brs] at h
 | a :: r, k + 1, h => by
  have hle : (if isE a r then k else k + 1) ≤ brs r := by rw [brs] at h; split <;> simp_all <;> omega
  obtain ⟨m, h1, h2, h3, h4⟩ := sk_some r _ hle
  refine ⟨m + 1, by rw [sk, h1]; rfl, by simpa using h2, ?_, ?_⟩
  ·rw [nb, h3]; split <;> omega
  ·intro j hj
   cases j with
   | zero => rw [nb_zero]; omega
   | succ j =>
    rw [nb]
    have := h4 j (by omega)
    cases hE : isE a r <;> rw [hE] at this <;> simp at this ⊢ <;> omega
theorem nb_mono : ∀ (l : List Int) (n m : Nat), n ≤ m → nb l n ≤ nb l m
 | [], n, m, _ => by cases n <;> cases m <;> simp [nb]
 | a :: r, 0, m, _ => by rw [nb_zero]; omega
 | a :: r, n + 1, m + 1, h => by rw [nb, nb]; have := nb_mono r n m (by omega); omega
theorem nb_le : ∀ (l : List Int) (n : Nat), nb l n ≤ n
 | [], n => by cases n <;> simp [nb]
 | a :: r, 0 => by rw [nb_zero]; omega
 | a :: r, n + 1 => by rw [nb]; have := nb_le r n; split <;> omega
theorem pos_step {e : Enc} {l : Bs} {j : Nat} (h : szs ((ats e l).take j) < l.length) : ∃ a n, (ats e l)[j]? = some (a, n) ∧ nx e (l.drop (szs ((ats e l).take j))) = (a, n) ∧ (ats e l).take (j + 1) = (ats e l).take j ++ [(a, n)] ∧ szs ((ats e l).take (j + 1)) = szs ((ats e l).take j) + n ∧ 1 ≤ n ∧
  szs ((ats e l).take (j + 1)) ≤ l.length := by
 have hc := (ats_cut e j l).2
 have hne : l.drop (szs ((ats e l).take j)) ≠ [] := fun hn => by
  have := congrArg List.length hn
  rw [List.length_drop, List.length_nil] at this; omega
 rw [ats_cons e hne] at hc
 have hj : j < (ats e l).length := by
  by_cases hj : j < (ats e l).length
  ·exact hj
  ·have hz : (ats e l).drop j = [] := List.drop_eq_nil_of_le (by omega)
   rw [hz] at hc; cases hc
 have hd := List.drop_eq_getElem_cons hj
 rw [hd] at hc
 obtain ⟨h1, -⟩ := List.cons.inj hc
 have ht : (ats e l).take (j + 1) = (ats e l).take j ++ [(ats e l)[j]] := by rw [List.take_succ_eq_append_getElem hj]
 have hp := ats_posd e l _ (List.getElem_mem hj)
 have hx := List.getElem?_eq_getElem hj
 generalize (ats e l)[j] = x at *
 obtain ⟨a, n⟩ := x
 have hs : szs ((ats e l).take (j + 1)) = szs ((ats e l).take j) + n := by rw [ht, szs_append, szs_cons, szs_nil, Nat.add_zero]
 refine ⟨a, n, hx, h1, ht, hs, hp, ?_⟩
 have ha := szs_all e l
 rw [← List.take_append_drop (j + 1) (ats e l), szs_append] at ha
 omega
theorem szs_zero : ∀ {l : As}, Posd l → szs l = 0 → l = []
 | [], _, _ => rfl
 | x :: r, h, h0 => by rw [szs_cons] at h0; have := h x List.mem_cons_self; omega
theorem pos_end {e : Enc} {l : Bs} {j : Nat} (h : ¬ szs ((ats e l).take j) < l.length) : (ats e l).take j = ats e l := by
 have ha := szs_all e l
 rw [← List.take_append_drop j (ats e l), szs_append] at ha
 have := szs_zero ((ats_posd e l).drop j) (by omega)
 rw [List.drop_eq_nil_iff] at this
 exact List.take_of_length_le this
theorem pos_le {e : Enc} {l : Bs} (j : Nat) : szs ((ats e l).take j) ≤ l.length := by
 have ha := szs_all e l
 rw [← List.take_append_drop j (ats e l), szs_append] at ha
 omega
theorem msr_snoc {l : As} {a : Int} {n : Nat} (h : Posd l) (hn : 1 ≤ n) : msr (l ++ [(a, n)]) = (msr l).add (one1 a n) := by
 rw [msr_append h (fun x hx => by rw [List.mem_singleton.1 hx]; exact hn), msr_one a hn]
end Trx
end Go.Proofs.YtolhlldgnfbemaaGreat
namespace Go.Proofs.YtolhlldgnfbemaaGreat
open Go Go.Vx Trx
section
variable {w w' : World}
def smT (s : Sums) : Cells.T c91 := ((s.atoms : Int), (s.bytes : Int), (s.breaks : Int), s.lf, s.cr, ())
def pcT (x : Pc) : Cells.T c93 := (x.bytes, x.tag, (x.sm.atoms : Int), (x.sm.bytes : Int), (x.sm.breaks : Int), x.sm.lf, x.sm.cr, ())
abbrev smV (s : Sums) : Value := .agg (Cells.vals c91 (smT s)).toArray
abbrev pcV (x : Pc) : Value := .agg (Cells.vals c93 (pcT x)).toArray
theorem meth_x0 {ty : TypeId} {v v' : Value} {name : String} {f : FuncId} {t : RTy} {K : t.T → World → Prop} (hm : ∀ w, (Go.method (Tryz.prog.types.size + Made.depth) ty v name).run Tryz.prog w = .ok (f, v') w)
  (hf : ((Tryz.prog.funcs[f]?).map fun fn => (fn.body.isNone, fn.name == "runtime.NumGoroutine")) = some (false, false)) (h : callT Tryz.prog f #[v'] t K w) :
  callX Tryz.prog (invoke (.fn (.method name) #[]) (#[.iface ty v] ++ #[])) t K w := by
 refine .inl ⟨f, #[v'], ?_, h⟩
 have h := run_callFunc (P := Tryz.prog) (f := f) (args := #[v']) hf w
 have e : invoke (.fn (.method name) #[]) (#[.iface ty v] ++ #[]) = callMethod (.iface ty v) name #[] := rfl
 rw [e]
 simp only [callMethod, Sem.run_bind, program, Sem.run, Result.andThen_ok, hm]
 exact h
theorem add_call {s o : Sums} (hs : s.Ok) (ho : o.Ok) (hb : s.bytes + o.bytes < 2 ^ 60) {K : Cells.T c91 → World → Prop} (hK : ∀ w', Ext w w' → K (smT (s.add o)) w') :
  callT Tryz.prog 93 #[smV s, smV o] (.one (.agg c91)) K w := by
 have h1 := hs.byt; have h2 := hs.brk; have h3 := ho.byt; have h4 := ho.brk
 refine F93_calls (a0 := smT s) (a1 := smT o) ?_
 unfold F93
 refine (St.start w).newO fun b1 w1 S1 e1 => S1.newO fun b2 w2 S2 e2 => S2.newO fun b3 w3 S3 e3 => ?_
 refine S3.ld 2 rfl (x := ((s.atoms : Nat) : Int)) rfl ?_
 refine sif_r (fun h => ?_) (fun h => ?_)
 ·have h0 : s.atoms = 0 := by simp only [beq_iff_eq] at h; omega
  refine S3.lds 1 (smT o) rfl (S3.aggSt 0 rfl rfl rfl rfl fun w4 S4 u4 => S4.lds 0 (smT o) rfl ?_)
  have := hK w4 S4.upd
  rwa [show s.add o = o by unfold Sums.add; rw [if_pos h0]] at this
 have h0 : ¬ s.atoms = 0 := by simp only [beq_eq_false_iff_ne] at h; omega
 refine S3.ld 1 rfl (x := ((o.atoms : Nat) : Int)) rfl (sif_r (fun h => ?_) (fun h => ?_))
 ·have h0' : o.atoms = 0 := by simp only [beq_iff_eq] at h; omega
  refine S3.lds 2 (smT s) rfl (S3.aggSt 0 rfl rfl rfl rfl fun w4 S4 u4 => S4.lds 0 (smT s) rfl ?_)
  have := hK w4 S4.upd
  rwa [show s.add o = s by unfold Sums.add; rw [if_neg h0, if_pos h0']] at this
 have h0' : ¬ o.atoms = 0 := by simp only [beq_eq_false_iff_ne] at h; omega
 refine S3.ld 2 rfl (x := ((s.atoms : Nat) : Int)) rfl (S3.ld 1 rfl (x := ((o.atoms : Nat) : Int)) rfl (S3.ld 2 rfl (x := ((s.bytes : Nat) : Int)) rfl (S3.ld 1 rfl (x := ((o.bytes : Nat) : Int)) rfl
  (S3.ld 2 rfl (x := ((s.breaks : Nat) : Int)) rfl (S3.ld 1 rfl (x := ((o.breaks : Nat) : Int)) rfl (S3.ld 2 rfl (x := s.lf) rfl (S3.ld 1 rfl (x := o.cr) rfl ?_)))))))
 rw [wrap64 (a := ((s.atoms : Nat) : Int) + ((o.atoms : Nat) : Int)) (by omega) (by omega), wrap64 (a := ((s.bytes : Nat) : Int) + ((o.bytes : Nat) : Int)) (by omega) (by omega), wrap64 (a := ((s.breaks : Nat) : Int) + ((o.breaks : Nat) : Int)) (by omega) (by omega)]
 refine S3.newAgg rfl rfl rfl fun b4 w4 S4 e4 => ?_
 refine join_r (fun _ w' => St (fun _ => False) w w' [(b4, .cells (Cells.vals c91 (smT (s.add o))).toArray 91 (0, 0)), (b3, .cells #[(.int .i64 0), (.int .i64 0), (.int .i64 0), (.bool false), (.bool false)] 91 (0, 0))]) ?_ ?_
 ·refine join_r (fun x w' => x = (s.cr && o.lf, ()) ∧ w4 = w') (S4.ld 3 rfl (x := s.cr) rfl (sif_r (fun h => S4.ld 2 rfl (x := o.lf) rfl ⟨by rw [h]; rfl, rfl⟩) (fun h => ⟨by rw [h]; rfl, rfl⟩))) ?_
  rintro _ w' ⟨rfl, rfl⟩
  have lf := hs.cr; have lf' := ho.lf
  refine sif_r (fun h => ?_) (fun h => ?_)
  ·have h' : (s.cr && o.lf) = true := h
   simp only [Bool.and_eq_true] at h'
   have := lf h'.1; have := lf' h'.2
   refine S4.ld 0 rfl (x := ((s.breaks : Nat) : Int) + ((o.breaks : Nat) : Int)) rfl ?_
   rw [wrap64 (by omega) (by omega)]
   refine S4.stC 0 rfl (by simp) fun w5 S5 u5 => ?_
   have e : s.add o = ⟨s.atoms + o.atoms, s.bytes + o.bytes, s.breaks + o.breaks - 1, s.lf, o.cr⟩ := by unfold Sums.add; rw [if_neg h0, if_neg h0', if_pos h]
   rw [e]
   have e2 : ((s.breaks : Nat) : Int) + ((o.breaks : Nat) : Int) - 1 = ((s.breaks + o.breaks - 1 : Nat) : Int) := by omega
   rw [e2] at S5
   exact ⟨S5.upd, S5.old, fun x hx => S5.loc x (by
    rcases List.mem_cons.1 hx with rfl | hx
    ·exact List.mem_cons_self
    ·rw [List.mem_singleton.1 hx]; exact List.mem_cons_of_mem _ List.mem_cons_self), by
    have := S5.nd
    simp at this ⊢
    exact this.1.1⟩
  ·have e : s.add o = ⟨s.atoms + o.atoms, s.bytes + o.bytes, s.breaks + o.breaks, s.lf, o.cr⟩ := by
    have h' : ¬ (s.cr && o.lf) = true := fun hh => by
     have hf : (s.cr && o.lf) = false := h
     rw [hh] at hf; cases hf
    unfold Sums.add; rw [if_neg h0, if_neg h0', if_neg h']; rfl
   rw [e]
   exact ⟨S4.upd, S4.old, fun x hx => S4.loc x (by
    rcases List.mem_cons.1 hx with rfl | hx
    ·exact List.mem_cons_self
    ·rw [List.mem_singleton.1 hx]; exact List.mem_cons_of_mem _ List.mem_cons_self), by
    have := S4.nd
    simp at this ⊢
    exact this.1.1⟩
 ·intro _ w5 S5
  exact S5.lds 0 (smT (s.add o)) rfl (S5.aggSt 1 rfl rfl rfl rfl fun w6 S6 u6 => S6.lds 1 (smT (s.add o)) rfl (hK w6 S6.upd))
theorem add_x {s o : Sums} (hs : s.Ok) (ho : o.Ok) (hb : s.bytes + o.bytes < 2 ^ 60) {K : Cells.T c91 → World → Prop} (hK : ∀ w', Ext w w' → K (smT (s.add o)) w') :
  callX Tryz.prog (invoke (.fn (.method "Add") #[]) (#[.iface 91 (smV s)] ++ #[smV o])) (.one (.agg c91)) K w :=
 meth_x (f := 93) (v' := smV s) (fun w => by kernel_rfl) (by kernel_rfl) (add_call hs ho hb hK)
theorem measure_x {x : Pc} {K : Cells.T c91 → World → Prop} (hK : ∀ w', Ext w w' → K (smT x.sm) w') :
  callX Tryz.prog (invoke (.fn (.method "Measure") #[]) (#[.iface 93 (pcV x)] ++ #[])) (.one (.agg c91)) K w := by
 refine meth_x0 (f := 183) (v' := pcV x) (fun w => by kernel_rfl) (by kernel_rfl) ?_
 refine F183_calls (a0 := pcT x) ?_
 unfold F183
 refine (St.start w).newO fun b1 w1 S1 e1 => S1.newO fun b2 w2 S2 e2 => ?_
 refine lds_r (S2.at_ 1 rfl) (x := smT x.sm) (fun i v hv => ?_) (S2.aggSt 0 rfl rfl rfl rfl fun w3 S3 u3 => S3.lds 0 (smT x.sm) rfl (hK w3 S3.upd))
 match i, hv with
 | 0, hv => exact hv
 | 1, hv => exact hv
 | 2, hv => exact hv
 | 3, hv => exact hv
 | 4, hv => exact hv
 | i + 5, hv => cases hv
theorem key_x {s : Sums} {k : Nat} (hk : k < 2) {K : Int → World → Prop} (hK : ∀ w', Ext w w' → K (if k = 0 then (s.atoms : Int) else (s.breaks : Int)) w') :
  callX Tryz.prog (invoke (.fn (.method "Key") #[]) (#[.iface 91 (smV s)] ++ #[.int .i64 (k : Int)])) (.one (.one (.int .i64))) K w := by
 refine meth_x (f := 182) (v' := smV s) (fun w => by kernel_rfl) (by kernel_rfl) ?_
 refine F182_calls (a0 := smT s) ?_
 unfold F182
 refine (St.start w).newO fun b1 w1 S1 e1 => ?_
 have := hK w1 e1
 match k, hk with
 | 0, _ => exact sif_r (fun _ => S1.ld 0 rfl (x := ((s.atoms : Nat) : Int)) rfl this) (fun h => by cases h)
 | 1, _ => exact sif_r (fun h => by cases h) (fun _ => sif_r (fun _ => S1.ld 0 rfl (x := ((s.breaks : Nat) : Int)) rfl this) (fun h => by cases h))
end
section
variable {w w' : World} {S : Nat → Prop}
theorem _root_.Go.Vx.St.aggAt {M : Nat → Prop} {w0 : World} {ls : List (Nat × Obj)} (S : St M w0 w ls) (i : Nat) {b off n : Nat} {vs : Array Value} {K : World → Prop} {c : Array Value} {t : TypeId} (hi : ls[i]? = some (b, .cells c t (0, 0))) (hn : vs.size = n) (h1 : vs.toList.all isOne = true) (ho : off + n ≤ c.size)
  (h : ∀ w1, St M w0 w1 (ls.set i (b, .cells (setRow c off vs.toList) t (0, 0))) → K w1) : Go.Vx.aggSt ⟨b, off, none⟩ (.agg vs) n K w :=
 aggSt_r (S.at_ i hi) hn h1 ho fun w1 u hb _ => h w1 (set_loc S hi u hb)
def ncells (l r : Option Addr) (x : Pc) (n h : Nat) (s : Sums) : Array Value :=
 #[.pointer l, .pointer r, .slice x.bytes.a x.bytes.len x.bytes.cap, .int .i64 x.tag, .int .i64 (x.sm.atoms : Int), .int .i64 (x.sm.bytes : Int), .int .i64 (x.sm.breaks : Int), .bool x.sm.lf, .bool x.sm.cr,
  .int .i64 (n : Int), .int .i64 (h : Int), .int .i64 (s.atoms : Int), .int .i64 (s.bytes : Int), .int .i64 (s.breaks : Int), .bool s.lf, .bool s.cr]
def Trx.Tr.In (w : World) : Tr → Prop
 | .nil => True
 | .node b l x r => w.heap[b]? = some (.cells (ncells l.ptr r.ptr x (Tr.node b l x r).size (Tr.node b l x r).tall (tot (Tr.node b l x r).items)) 139 (0, 0)) ∧ l.In w ∧ r.In w
theorem Trx.Tr.In.ext : ∀ {t : Tr}, t.In w → Ext w w' → t.In w'
 | .nil, _, _ => trivial
 | .node _ _ _ _, h, e => ⟨e.ext_get h.1, h.2.1.ext e, h.2.2.ext e⟩
theorem Trx.Tr.In.ty : ∀ {t : Tr}, t.In w → Upd S w w' → NoTy w S 139 → t.In w'
 | .nil, _, _, _ => trivial
 | .node _ _ _ _, h, u, hS => ⟨u.get h.1 fun hk => hS _ hk _ _ h.1, h.2.1.ty u hS, h.2.2.ty u hS⟩
theorem nd_cell {b : Nat} {l r : Tr} {x : Pc} (h : (Tr.node b l x r).In w) {j : Nat} {v : Value} (hv : (ncells l.ptr r.ptr x (Tr.node b l x r).size (Tr.node b l x r).tall (tot (Tr.node b l x r).items))[j]? = some v) : w.cell? ((at0 b).add j) = some v := by
 rw [addr_add, Nat.zero_add]; exact cell_of h.1 hv
theorem nd_cell0 {b : Nat} {l r : Tr} {x : Pc} (h : (Tr.node b l x r).In w) : w.cell? (at0 b) = some (.pointer l.ptr) := cell_of h.1 rfl
theorem nd_left {b : Nat} {l r : Tr} {x : Pc} (h : (Tr.node b l x r).In w) {K : Addr → Option Addr → World → Prop} (hK : K (at0 b) l.ptr w) : nn (Tr.node b l x r).ptr (fun p => ld .ptr p (K p)) w :=
 nn_some (ld_r h.1 (x := l.ptr) rfl hK)
theorem nd_right {b : Nat} {l r : Tr} {x : Pc} (h : (Tr.node b l x r).In w) {K : Addr → Option Addr → World → Prop} (hK : K (at0 b) r.ptr w) : nn (Tr.node b l x r).ptr (fun p => ld .ptr (p.add 1) (K p)) w :=
 nn_some (by rw [addr_add]; exact ld_r h.1 (x := r.ptr) rfl hK)
theorem item_at {b : Nat} {l r : Tr} {x : Pc} (h : (Tr.node b l x r).In w) : cellsAt w ((at0 b).add 2) 0 (Cells.vals c93 (pcT x)) := by
 rw [addr_add]
 refine cellsAt_of _ 0 fun j v hv => cell_of h.1 ?_
 match j, hv with
 | 0, hv => exact hv
 | 1, hv => exact hv
 | 2, hv => exact hv
 | 3, hv => exact hv
 | 4, hv => exact hv
 | 5, hv => exact hv
 | 6, hv => exact hv
 | j + 7, hv => cases hv
theorem sum_at {b : Nat} {l r : Tr} {x : Pc} (h : (Tr.node b l x r).In w) : cellsAt w ((at0 b).add 11) 0 (Cells.vals c91 (smT (tot (Tr.node b l x r).items))) := by
 rw [addr_add]
 refine cellsAt_of _ 0 fun j v hv => cell_of h.1 ?_
 match j, hv with
 | 0, hv => exact hv
 | 1, hv => exact hv
 | 2, hv => exact hv
 | 3, hv => exact hv
 | 4, hv => exact hv
 | j + 5, hv => cases hv
theorem nd_item {b : Nat} {l r : Tr} {x : Pc} (h : (Tr.node b l x r).In w) {K : Addr → Cells.T c93 → World → Prop} (hK : K (at0 b) (pcT x) w) : nn (Tr.node b l x r).ptr (fun p => lds c93 (p.add 2) (K p)) w :=
 nn_some ⟨pcT x, item_at h, hK⟩
theorem nd_sum {b : Nat} {l r : Tr} {x : Pc} (h : (Tr.node b l x r).In w) {K : Addr → Cells.T c91 → World → Prop} (hK : K (at0 b) (smT (tot (Tr.node b l x r).items)) w) : nn (Tr.node b l x r).ptr (fun p => lds c91 (p.add 11) (K p)) w :=
 nn_some ⟨_, sum_at h, hK⟩
theorem count_call {t : Tr} (h : t.In w) {K : Int → World → Prop} (hK : K (t.size : Int) w) : callT Tryz.prog 137 #[.pointer t.ptr] (.one (.one (.int .i64))) K w := by
 refine F137_calls ?_
 unfold F137
 cases t with
 | nil => exact sif_r (fun _ => hK) (fun h => by cases h)
 | node b l x r => exact sif_r (fun h => by cases h) (fun _ => nn_some (by rw [addr_add]; exact ld_r h.1 (x := ((Tr.node b l x r).size : Int)) rfl hK))
theorem tall_call {t : Tr} (h : t.In w) {K : Int → World → Prop} (hK : K (t.tall : Int) w) : callT Tryz.prog 152 #[.pointer t.ptr] (.one (.one (.int .i64))) K w := by
 refine F152_calls ?_
 unfold F152
 cases t with
 | nil => exact sif_r (fun _ => hK) (fun h => by cases h)
 | node b l x r => exact sif_r (fun h => by cases h) (fun _ => nn_some (by rw [addr_add]; exact ld_r h.1 (x := ((Tr.node b l x r).tall : Int)) rfl hK))
structure Fine (l : List Pc) : Prop where
 ok : AllOk l
 few : l.length < 2 ^ 60
 small : (tot l).bytes < 2 ^ 60
theorem tot_app_bytes {l m : List Pc} (h : AllOk l) (h' : AllOk m) : (tot (l ++ m)).bytes = (tot l).bytes + (tot m).bytes := by
 rw [tot_append h h']; exact (Sums.add_bytes _ _ (tot_ok h) (tot_ok h')).1
theorem Fine.left {l m : List Pc} (h : Fine (l ++ m)) : Fine l := ⟨h.ok.left, by have := h.few; rw [List.length_append] at this; omega, by
 have := h.small; rw [tot_app_bytes h.ok.left h.ok.right] at this; omega⟩
theorem Fine.right {l m : List Pc} (h : Fine (l ++ m)) : Fine m := ⟨h.ok.right, by have := h.few; rw [List.length_append] at this; omega, by
 have := h.small; rw [tot_app_bytes h.ok.left h.ok.right] at this; omega⟩
theorem set_sum (l r : Option Addr) (x : Pc) (n h : Nat) (s s' : Sums) : setRow (ncells l r x n h s) 11 (Cells.vals c91 (smT s')).toArray.toList = ncells l r x n h s' := rfl
theorem agg_sum {M : Nat → Prop} {w0 : World} {ls : List (Nat × Obj)} {b : Nat} {l r : Option Addr} {x : Pc} {n h : Nat} {s s' : Sums} {K : World → Prop} (S : St M w0 w ((b, .cells (ncells l r x n h s) 139 (0, 0)) :: ls))
  (hK : ∀ w1, St M w0 w1 ((b, .cells (ncells l r x n h s') 139 (0, 0)) :: ls) → K w1) : aggSt ((at0 b).add 11) (.agg (Cells.vals c91 (smT s')).toArray) 5 K w := by
 rw [addr_add]
 refine S.aggAt 0 (c := ncells l r x n h s) rfl rfl rfl (by show 0 + 11 + 5 ≤ 16; decide) fun w1 S1 => hK w1 ?_
 rw [Nat.zero_add, set_sum] at S1
 exact S1
theorem node_call {l r : Tr} {x : Pc} (hl : l.In w) (hr : r.In w) (hf : Fine (l.items ++ x :: r.items)) {K : Option Addr → World → Prop} (hK : ∀ b w', (Tr.node b l x r).In w' → Ext w w' → K (some (at0 b)) w') :
  callT Tryz.prog 129 #[.pointer l.ptr, pcV x, .pointer r.ptr] (.one (.one .ptr)) K w := by
 refine F129_calls (a1 := pcT x) ?_
 unfold F129
 have okl := hf.ok.left
 have okx := hf.ok.right.head
 have okr := hf.ok.right.tail
 have sl := size_items l; have sr := size_items r
 have tl := tall_le l; have tr := tall_le r
 have few := hf.few
 rw [List.length_append, List.length_cons] at few
 have small := hf.small
 have ex : x :: r.items = [x] ++ r.items := rfl
 rw [ex, tot_app_bytes okl (AllOk.append (AllOk.one okx) okr), tot_app_bytes (AllOk.one okx) okr, tot_one okx] at small
 refine (St.start w).newO fun b1 w1 S1 e1 => S1.drew fun w2 S2 e2 _ => S2.lds 0 (pcT x) rfl ?_
 have e12 := e1.trans e2
 have hl2 := hl.ext e12; have hr2 := hr.ext e12
 refine count_call hl2 (S2.keeps 0 rfl (count_call hr2 (S2.keeps 0 rfl (tall_call hl2 (S2.keeps 0 rfl (tall_call hr2 (S2.keeps 0 rfl ?_)))))))
 have es : IntKind.wrap .i64 (IntKind.wrap .i64 ((l.size : Int) + 1) + (r.size : Int)) = (((l.size + 1 + r.size : Nat)) : Int) := by
  rw [wrap64 (a := (l.size : Int) + 1) (by omega) (by omega), wrap64 (by omega) (by omega)]; omega
 have et : IntKind.wrap .i64 ((if (r.tall : Int) > (l.tall : Int) then (r.tall : Int) else (l.tall : Int)) + 1) = ((max l.tall r.tall + 1 : Nat) : Int) := by
  have e : (if (r.tall : Int) > (l.tall : Int) then (r.tall : Int) else (l.tall : Int)) = ((max l.tall r.tall : Nat) : Int) := by split <;> omega
  rw [e, wrap64 (by omega) (by omega)]; omega
 rw [es, et]
 refine S2.newO fun b7 w3 S3 e3 => S3.lds 1 (pcT x) rfl (measure_x fun w4 e4 => nn_some ?_)
 have S4 := S3.ext e4
 have e14 := (e12.trans e3).trans e4
 have S4' : St (fun _ => False) w w4 [(b7, .cells (ncells l.ptr r.ptr x (l.size + 1 + r.size) (max l.tall r.tall + 1) .zero) 139 (0, 0)), (b1, .cells (Cells.vals c93 (pcT x)).toArray 93 (0, 0))] := S4
 refine agg_sum (s' := x.sm) S4' fun w5 S5 => ?_
 have J0 : ∀ (w' : World) (s : Sums), St (fun _ => False) w w' [(b7, .cells (ncells l.ptr r.ptr x (l.size + 1 + r.size) (max l.tall r.tall + 1) s) 139 (0, 0)), (b1, .cells (Cells.vals c93 (pcT x)).toArray 93 (0, 0))] →
   cellsAt w' ((at0 b7).add 11) 0 (Cells.vals c91 (smT s)) := by
  intro w' s S'
  rw [addr_add]
  refine cellsAt_of _ 0 fun j v hv => cell_of (S'.at_ 0 rfl) ?_
  match j, hv with
  | 0, hv => exact hv
  | 1, hv => exact hv
  | 2, hv => exact hv
  | 3, hv => exact hv
  | 4, hv => exact hv
  | j + 5, hv => cases hv
 have okt := tot_ok okl; have okt' := tot_ok okr
 refine join_r (fun _ w' => St (fun _ => False) w w' [(b7, .cells (ncells l.ptr r.ptr x (l.size + 1 + r.size) (max l.tall r.tall + 1) ((tot l.items).add x.sm)) 139 (0, 0)), (b1, .cells (Cells.vals c93 (pcT x)).toArray 93 (0, 0))]) ?_ ?_
 ·cases l with
  | nil => exact sif_r (fun h => by cases h) (fun _ => S5)
  | node bl ll xl rl =>
   refine sif_r (fun _ => S5.drew fun w6 S6 e6 _ => ?_) (fun h => by cases h)
   refine nd_sum (hl.ext S6.upd) (nn_some ⟨_, J0 w6 x.sm S6, ?_⟩)
   exact add_x okt okx (by omega) fun w7 e7 => nn_some (agg_sum (S6.ext e7) fun w8 S8 => S8)
 intro _ w6 S6
 have okm := Sums.add_ok okt okx
 have bm := (Sums.add_bytes _ _ okt okx).1
 have fin : (tot (l.items ++ x :: r.items)) = ((tot l.items).add x.sm).add (tot r.items) := by
  rw [ex, tot_append okl (AllOk.append (AllOk.one okx) okr), tot_append (AllOk.one okx) okr, tot_one okx, Sums.add_assoc okt okx okt']
 refine join_r (fun _ w' => St (fun _ => False) w w' [(b7, .cells (ncells l.ptr r.ptr x (l.size + 1 + r.size) (max l.tall r.tall + 1) (((tot l.items).add x.sm).add (tot r.items))) 139 (0, 0)), (b1, .cells (Cells.vals c93 (pcT x)).toArray 93 (0, 0))]) ?_ ?_
 ·cases r with
  | nil =>
   have e : ((tot l.items).add x.sm).add (tot (Tr.nil).items) = (tot l.items).add x.sm := Sums.add_zero okm
   rw [e]
   exact sif_r (fun h => by cases h) (fun _ => S6)
  | node br lr xr rr =>
   refine sif_r (fun _ => S6.drew fun w7 S7 e7 _ => ?_) (fun h => by cases h)
   refine nn_some ⟨_, J0 w7 _ S7, nd_sum (hr.ext S7.upd) ?_⟩
   exact add_x okm okt' (by omega) fun w8 e8 => nn_some (agg_sum (S7.ext e8) fun w9 S9 => S9)
 intro _ w7 S7
 refine hK b7 w7 ⟨?_, hl.ext S7.upd, hr.ext S7.upd⟩ S7.upd
 have := S7.at_ 0 rfl
 rw [← fin] at this
 exact this
end
section
variable {w w' : World} {S : Nat → Prop}
abbrev GivesT (w : World) (l : List Pc) (K : Option Addr → World → Prop) : Prop := ∀ (t : Tr) (w' : World), t.In w' → t.items = l → Ext w w' → K t.ptr w'
theorem GivesT.ext {l : List Pc} {K : Option Addr → World → Prop} (h : GivesT w l K) (e : Ext w w') : GivesT w' l K := fun t w2 h1 h2 e2 => h t w2 h1 h2 (e.trans e2)
theorem Fine.mid {a l b : List Pc} (h : Fine (a ++ (l ++ b))) : Fine l := h.right.left
theorem node_gives {l r : Tr} {x : Pc} {L : List Pc} (hl : l.In w) (hr : r.In w) (hf : Fine L) (hL : l.items ++ x :: r.items = L) {K : Option Addr → World → Prop} (hK : GivesT w L K) :
  callT Tryz.prog 129 #[.pointer l.ptr, pcV x, .pointer r.ptr] (.one (.one .ptr)) K w :=
 node_call hl hr (hL ▸ hf) fun b w' h1 e1 => hK _ _ h1 hL e1
theorem tall_gt {a b : Tr} (h : decide ((a.tall : Int) > IntKind.wrap .i64 ((b.tall : Int) + 1)) = true) (hb : b.tall < 2 ^ 60) : b.tall + 1 < a.tall := by
 rw [wrap64 (by omega) (by omega)] at h
 simp only [decide_eq_true_eq] at h
 omega
theorem even_call {l r : Tr} {x : Pc} (hl : l.In w) (hr : r.In w) (hf : Fine (l.items ++ x :: r.items)) {K : Option Addr → World → Prop} (hK : GivesT w (l.items ++ x :: r.items) K) :
  callT Tryz.prog 162 #[.pointer l.ptr, pcV x, .pointer r.ptr] (.one (.one .ptr)) K w := by
 refine F162_calls (a1 := pcT x) ?_
 unfold F162
 have few := hf.few
 rw [List.length_append, List.length_cons, size_items, size_items] at few
 have tl := tall_le l; have tr := tall_le r
 refine (St.start w).newO fun b1 w1 S1 e1 => ?_
 have hl1 := hl.ext e1; have hr1 := hr.ext e1
 refine tall_call hl1 (tall_call hr1 (sif_r (fun h => ?_) (fun h => ?_)))
 ·have hgt := tall_gt h (by omega)
  obtain ⟨bl, ll, lx, lr, rfl⟩ := tall_pos (t := l) (by omega)
  refine S1.drew fun w2 S2 e2 _ => ?_
  have hl2 := hl1.ext e2; have hr2 := hr1.ext e2
  refine nd_left hl2 (nd_right hl2 (tall_call hl2.2.1 (keep_r (nd_cell hl2 rfl) (tall_call hl2.2.2 (sif_r (fun h2 => ?_) (fun h2 => ?_))))))
  ·refine S2.drew fun w3 S3 e3 _ => ?_
   have hl3 := hl2.ext e3; have hr3 := hr2.ext e3
   refine nd_left hl3 (nd_item hl3 (nd_right hl3 (S3.lds 0 (pcT x) rfl ?_)))
   have e03 := (e1.trans e2).trans e3
   have eq : (Tr.node bl ll lx lr).items ++ x :: r.items = (ll.items ++ [lx]) ++ (lr.items ++ x :: r.items) := by simp [Tr.items]
   refine node_gives hl3.2.2 hr3 (L := lr.items ++ x :: r.items) ((eq ▸ hf).right) rfl fun t w4 ht hti e4 => ?_
   refine keep_r (item_at (hl3.ext e4)) (keep_r (nd_cell0 (hl3.ext e4)) ?_)
   exact node_gives (hl3.ext e4).2.1 ht hf (by rw [hti, eq]; simp) (hK.ext (e03.trans e4))
  ·simp only [decide_eq_false_iff_not, ge_iff_le] at h2
   obtain ⟨bm, ml, mx, mr, rfl⟩ := tall_pos (t := lr) (by omega)
   refine nd_right hl2 (S2.drew fun w3 S3 e3 _ => ?_)
   have hl3 := hl2.ext e3; have hr3 := hr2.ext e3
   have hm3 := hl3.2.2
   refine nd_left hl3 (nd_item hl3 (nd_left hm3 (nd_item hm3 (nd_right hm3 (S3.lds 0 (pcT x) rfl ?_)))))
   have e03 := (e1.trans e2).trans e3
   have eq : (Tr.node bl ll lx (Tr.node bm ml mx mr)).items ++ x :: r.items = (ll.items ++ lx :: ml.items) ++ ([mx] ++ (mr.items ++ x :: r.items)) := by simp [Tr.items]
   have hf' := eq ▸ hf
   refine node_gives hl3.2.1 hm3.2.1 (L := ll.items ++ lx :: ml.items) hf'.left rfl fun t w4 ht hti e4 => ?_
   have S4 := S3.ext e4
   have hm4 := hm3.ext e4
   refine S4.keeps 0 rfl (keep_r (nd_cell hm4 rfl) (keep_r (item_at hm4) ?_))
   refine node_gives hm4.2.2 (hr3.ext e4) (L := mr.items ++ x :: r.items) hf'.right.right rfl fun t2 w5 ht2 hti2 e5 => ?_
   refine keep_r (item_at (hm4.ext e5)) ?_
   exact node_gives (ht.ext e5) ht2 hf (by rw [hti, hti2, eq]; simp) (hK.ext ((e03.trans e4).trans e5))
 refine tall_call hr1 (tall_call hl1 (sif_r (fun h => ?_) (fun h => ?_)))
 ·have hgt := tall_gt h (by omega)
  obtain ⟨br, rl, rx, rr, rfl⟩ := tall_pos (t := r) (by omega)
  refine S1.drew fun w2 S2 e2 _ => ?_
  have hl2 := hl1.ext e2; have hr2 := hr1.ext e2
  refine nd_right hr2 (nd_left hr2 (tall_call hr2.2.2 (keep_r (nd_cell0 hr2) (tall_call hr2.2.1 (sif_r (fun h2 => ?_) (fun h2 => ?_))))))
  ·refine S2.drew fun w3 S3 e3 _ => ?_
   have hl3 := hl2.ext e3; have hr3 := hr2.ext e3
   refine S3.lds 0 (pcT x) rfl (nd_left hr3 (nd_item hr3 (nd_right hr3 ?_)))
   have e03 := (e1.trans e2).trans e3
   have eq : l.items ++ x :: (Tr.node br rl rx rr).items = (l.items ++ x :: rl.items) ++ (rx :: rr.items) := by simp [Tr.items]
   refine node_gives hl3 hr3.2.1 (L := l.items ++ x :: rl.items) ((eq ▸ hf).left) rfl fun t w4 ht hti e4 => ?_
   refine keep_r (nd_cell (hr3.ext e4) rfl) (keep_r (item_at (hr3.ext e4)) ?_)
   exact node_gives ht (hr3.ext e4).2.2 hf (by rw [hti, eq]) (hK.ext (e03.trans e4))
  ·simp only [decide_eq_false_iff_not, ge_iff_le] at h2
   obtain ⟨bm, ml, mx, mr, rfl⟩ := tall_pos (t := rl) (by omega)
   refine nd_left hr2 (S2.drew fun w3 S3 e3 _ => ?_)
   have hl3 := hl2.ext e3; have hr3 := hr2.ext e3
   have hm3 := hr3.2.1
   refine S3.lds 0 (pcT x) rfl (nd_left hm3 (nd_item hm3 (nd_right hm3 (nd_item hr3 (nd_right hr3 ?_)))))
   have e03 := (e1.trans e2).trans e3
   have eq : l.items ++ x :: (Tr.node br (Tr.node bm ml mx mr) rx rr).items = (l.items ++ x :: ml.items) ++ ([mx] ++ (mr.items ++ rx :: rr.items)) := by simp [Tr.items]
   have hf' := eq ▸ hf
   refine node_gives hl3 hm3.2.1 (L := l.items ++ x :: ml.items) hf'.left rfl fun t w4 ht hti e4 => ?_
   have hm4 := hm3.ext e4; have hr4 := hr3.ext e4
   refine keep_r (nd_cell hr4 rfl) (keep_r (item_at hr4) (keep_r (nd_cell hm4 rfl) (keep_r (item_at hm4) ?_)))
   refine node_gives hm4.2.2 hr4.2.2 (L := mr.items ++ rx :: rr.items) hf'.right.right rfl fun t2 w5 ht2 hti2 e5 => ?_
   refine keep_r (item_at (hm4.ext e5)) ?_
   exact node_gives (ht.ext e5) ht2 hf (by rw [hti, hti2, eq]; simp) (hK.ext ((e03.trans e4).trans e5))
 exact S1.lds 0 (pcT x) rfl (node_gives hl1 hr1 hf rfl (hK.ext e1))
theorem join_call : ∀ (n : Nat) {l r : Tr} {w : World} {x : Pc}, l.tall + r.tall ≤ n → l.In w → r.In w → Fine (l.items ++ x :: r.items) → ∀ {K : Option Addr → World → Prop}, GivesT w (l.items ++ x :: r.items) K →
  callT Tryz.prog 159 #[.pointer l.ptr, pcV x, .pointer r.ptr] (.one (.one .ptr)) K w := by
 intro n
 induction n with
 | zero =>
  intro l r w x hn hl hr hf K hK
  refine F159_calls (a1 := pcT x) ?_
  unfold F159
  have h0 : l.tall = 0 := by omega
  have h1 : r.tall = 0 := by omega
  refine (St.start w).newO fun b1 w1 S1 e1 => ?_
  have hl1 := hl.ext e1; have hr1 := hr.ext e1
  refine tall_call hl1 (tall_call hr1 (sif_r (fun h => ?_) (fun _ => tall_call hr1 (tall_call hl1 (sif_r (fun h => ?_) (fun _ => ?_))))))
  ·have := tall_gt h (by omega); omega
  ·have := tall_gt h (by omega); omega
  ·exact S1.lds 0 (pcT x) rfl (node_gives hl1 hr1 hf rfl (hK.ext e1))
 | succ n ih =>
  intro l r w x hn hl hr hf K hK
  refine F159_calls (a1 := pcT x) ?_
  unfold F159
  have few := hf.few
  rw [List.length_append, List.length_cons, size_items, size_items] at few
  have tl := tall_le l; have tr := tall_le r
  refine (St.start w).newO fun b1 w1 S1 e1 => ?_
  have hl1 := hl.ext e1; have hr1 := hr.ext e1
  refine tall_call hl1 (tall_call hr1 (sif_r (fun h => ?_) (fun _ => tall_call hr1 (tall_call hl1 (sif_r (fun h => ?_) (fun _ => ?_))))))
  ·have hgt := tall_gt h (by omega)
   obtain ⟨bl, ll, lx, lr, rfl⟩ := tall_pos (t := l) (by omega)
   refine S1.drew fun w2 S2 e2 _ => ?_
   have hl2 := hl1.ext e2; have hr2 := hr1.ext e2
   refine nd_left hl2 (nd_item hl2 (nd_right hl2 (S2.lds 0 (pcT x) rfl ?_)))
   have eq : (Tr.node bl ll lx lr).items ++ x :: r.items = (ll.items ++ [lx]) ++ (lr.items ++ x :: r.items) := by simp [Tr.items]
   have ht : (Tr.node bl ll lx lr).tall = max ll.tall lr.tall + 1 := rfl
   refine ih (l := lr) (r := r) (by omega) hl2.2.2 hr2 ((eq ▸ hf).right) fun t w3 ht3 hti e3 => ?_
   refine keep_r (item_at (hl2.ext e3)) (keep_r (nd_cell0 (hl2.ext e3)) ?_)
   have eq2 : ll.items ++ lx :: t.items = (Tr.node bl ll lx lr).items ++ x :: r.items := by rw [hti, eq]; simp
   exact even_call (hl2.ext e3).2.1 ht3 (eq2 ▸ hf) (eq2 ▸ hK.ext ((e1.trans e2).trans e3))
  ·have hgt := tall_gt h (by omega)
   obtain ⟨br, rl, rx, rr, rfl⟩ := tall_pos (t := r) (by omega)
   refine S1.drew fun w2 S2 e2 _ => ?_
   have hl2 := hl1.ext e2; have hr2 := hr1.ext e2
   refine S2.lds 0 (pcT x) rfl (nd_left hr2 (nd_item hr2 (nd_right hr2 ?_)))
   have eq : l.items ++ x :: (Tr.node br rl rx rr).items = (l.items ++ x :: rl.items) ++ (rx :: rr.items) := by simp [Tr.items]
   have ht : (Tr.node br rl rx rr).tall = max rl.tall rr.tall + 1 := rfl
   refine ih (l := l) (r := rl) (by omega) hl2 hr2.2.1 ((eq ▸ hf).left) fun t w3 ht3 hti e3 => ?_
   refine keep_r (nd_cell (hr2.ext e3) rfl) (keep_r (item_at (hr2.ext e3)) ?_)
   have eq2 : t.items ++ rx :: rr.items = l.items ++ x :: (Tr.node br rl rx rr).items := by rw [hti, eq]
   exact even_call ht3 (hr2.ext e3).2.2 (eq2 ▸ hf) (eq2 ▸ hK.ext ((e1.trans e2).trans e3))
  ·exact S1.lds 0 (pcT x) rfl (node_gives hl1 hr1 hf rfl (hK.ext e1))
end
section
variable {w w' : World} {S : Nat → Prop}
theorem cut_call : ∀ (t : Tr) (w : World) (n : Nat), t.In w → Fine t.items → n < 2 ^ 61 → ∀ {K : Option Addr × Option Addr × Unit → World → Prop},
  (∀ (a b : Tr) (w' : World), a.In w' → b.In w' → a.items = t.items.take n → b.items = t.items.drop n → Ext w w' → K (a.ptr, b.ptr, ()) w') →
  callT Tryz.prog 147 #[.pointer t.ptr, .int .i64 (n : Int)] (.tup [(.one .ptr), (.one .ptr)]) K w := by
 intro t
 induction t with
 | nil =>
  intro w n ht hf hn K hK
  refine F147_calls ?_
  unfold F147
  exact sif_r (fun _ => hK .nil .nil w trivial trivial (by simp [Tr.items]) (by simp [Tr.items]) (Ext.refl w)) (fun h => by cases h)
 | node b l x r ihl ihr =>
  intro w n ht hf hn K hK
  refine F147_calls ?_
  unfold F147
  have hfl : Fine l.items := hf.left
  have hfr : Fine r.items := Fine.right (l := [x]) hf.right
  have sl := size_items l
  have few := hfl.few
  refine sif_r (fun h => by cases h) (fun _ => nd_left ht (count_call ht.2.1 (sif_r (fun h => ?_) (fun h => ?_))))
  ·simp only [decide_eq_true_eq] at h
   refine nd_left ht (ihl w n ht.2.1 hfl hn fun p q w1 hp hq hpi hqi e1 => drew_r fun w2 e2 _ => ?_)
   have ht2 := (ht.ext e1).ext e2
   refine nd_item ht2 (nd_right ht2 ?_)
   have hle : n ≤ l.items.length := by omega
   have eq : q.items ++ x :: r.items = (Tr.node b l x r).items.drop n := by
    show _ = (l.items ++ x :: r.items).drop n
    rw [List.drop_append_of_le_length hle, hqi]
   have hfq : Fine (q.items ++ x :: r.items) := by
    rw [eq]
    have e := List.take_append_drop n (Tr.node b l x r).items
    exact Fine.right (l := (Tr.node b l x r).items.take n) (e.symm ▸ hf)
   refine join_call _ (Nat.le_refl _) (hq.ext e2) ht2.2.2 hfq fun t3 w3 h3 h3i e3 => ?_
   refine hK p t3 w3 ((hp.ext e2).ext e3) h3 ?_ (by rw [h3i, eq]) ((e1.trans e2).trans e3)
   show _ = (l.items ++ x :: r.items).take n
   rw [List.take_append_of_le_length hle, hpi]
  ·simp only [decide_eq_false_iff_not] at h
   obtain ⟨m, rfl⟩ : ∃ m, n = l.items.length + 1 + m := ⟨n - l.items.length - 1, by omega⟩
   have ew : IntKind.wrap .i64 (IntKind.wrap .i64 (((l.items.length + 1 + m : Nat) : Int) - (l.size : Int)) - 1) = (m : Int) := by
    rw [wrap64 (a := ((l.items.length + 1 + m : Nat) : Int) - (l.size : Int)) (by omega) (by omega), wrap64 (by omega) (by omega)]; omega
   rw [ew]
   refine nd_right ht (ihr w m ht.2.2 hfr (by omega) fun p q w1 hp hq hpi hqi e1 => drew_r fun w2 e2 _ => ?_)
   have ht2 := (ht.ext e1).ext e2
   refine nd_left ht2 (nd_item ht2 ?_)
   have tk : (l.items ++ x :: r.items).take (l.items.length + 1 + m) = l.items ++ x :: r.items.take m := by
    rw [Nat.add_assoc, List.take_length_add_append, Nat.add_comm 1 m, List.take_succ_cons]
   have dr : (l.items ++ x :: r.items).drop (l.items.length + 1 + m) = r.items.drop m := by
    rw [Nat.add_assoc, List.drop_length_add_append, Nat.add_comm 1 m, List.drop_succ_cons]
   have eq : l.items ++ x :: p.items = (Tr.node b l x r).items.take (l.items.length + 1 + m) := by
    show _ = (l.items ++ x :: r.items).take _
    rw [tk, hpi]
   have hfq : Fine (l.items ++ x :: p.items) := by
    rw [eq]
    have e := List.take_append_drop (l.items.length + 1 + m) (Tr.node b l x r).items
    exact Fine.left (m := (Tr.node b l x r).items.drop (l.items.length + 1 + m)) (e.symm ▸ hf)
   refine join_call _ (Nat.le_refl _) ht2.2.1 (hp.ext e2) hfq fun t3 w3 h3 h3i e3 => ?_
   refine hK t3 q w3 h3 ((hq.ext e2).ext e3) (by rw [h3i, eq]) ?_ ((e1.trans e2).trans e3)
   show _ = (l.items ++ x :: r.items).drop _
   rw [dr, hqi]
theorem first_call : ∀ (l : Tr) (b : Nat) (x : Pc) (r : Tr) (w : World), (Tr.node b l x r).In w → Fine (Tr.node b l x r).items → ∀ {K : Cells.T c93 × Option Addr × Unit → World → Prop},
  (∀ (y : Pc) (t : Tr) (w' : World), t.In w' → y :: t.items = (Tr.node b l x r).items → Ext w w' → K (pcT y, t.ptr, ()) w') →
  callT Tryz.prog 160 #[.pointer (Tr.node b l x r).ptr] (.tup [(.agg c93), (.one .ptr)]) K w := by
 intro l
 induction l with
 | nil =>
  intro b x r w ht hf K hK
  refine F160_calls ?_
  unfold F160
  refine (St.start w).newO fun b1 w1 S1 e1 => nd_left (ht.ext e1) (sif_r (fun _ => S1.drew fun w2 S2 e2 _ => ?_) (fun h => by cases h))
  have ht2 := (ht.ext e1).ext e2
  refine nd_item ht2 (nd_right ht2 (S2.aggSt 0 rfl rfl rfl rfl fun w3 S3 u3 => ?_))
  exact keep_r (nd_cell (ht.ext S3.upd) rfl) (S3.lds 0 (pcT x) rfl (hK x r w3 (ht.ext S3.upd).2.2 rfl S3.upd))
 | node bl ll lx lr ih _ =>
  intro b x r w ht hf K hK
  refine F160_calls ?_
  unfold F160
  have hfl : Fine (Tr.node bl ll lx lr).items := hf.left
  refine (St.start w).newO fun b1 w1 S1 e1 => nd_left (ht.ext e1) (sif_r (fun h => by cases h) (fun _ => nd_left (ht.ext e1) ?_))
  refine ih bl lx lr w1 (ht.ext e1).2.1 hfl fun y t w2 h2 h2i e2 => ?_
  refine (S1.ext e2).newAgg rfl rfl rfl fun b2 w3 S3 e3 => S3.drew fun w4 S4 e4 _ => S4.lds 0 (pcT y) rfl ?_
  have e14 := ((e1.trans e2).trans e3).trans e4
  have ht4 := ht.ext e14
  have eq : (Tr.node b (Tr.node bl ll lx lr) x r).items = [y] ++ (t.items ++ x :: r.items) := by
   show (Tr.node bl ll lx lr).items ++ x :: r.items = _
   rw [← h2i]; rfl
  refine nd_item ht4 (nd_right ht4 (even_call ((h2.ext e3).ext e4) ht4.2.2 ((eq ▸ hf).right) fun t5 w5 h5 h5i e5 => ?_))
  have S5 := S4.ext e5
  refine S5.keeps 0 rfl (S5.aggSt 1 rfl rfl rfl rfl fun w6 S6 u6 => S6.lds 1 (pcT y) rfl ?_)
  refine hK y t5 w6 (h5.ty u6 ?_) (by rw [h5i, eq]; rfl) S6.upd
  rintro k rfl c fr hc
  have := S5.at_ 1 rfl
  rw [hc] at this; cases this
theorem both_call {l r : Tr} (hl : l.In w) (hr : r.In w) (hf : Fine (l.items ++ r.items)) {K : Option Addr → World → Prop} (hK : GivesT w (l.items ++ r.items) K) :
  callT Tryz.prog 148 #[.pointer l.ptr, .pointer r.ptr] (.one (.one .ptr)) K w := by
 refine F148_calls ?_
 unfold F148
 cases r with
 | nil => exact sif_r (fun _ => hK l w hl (by simp [Tr.items]) (Ext.refl w)) (fun h => by cases h)
 | node b rl rx rr =>
  refine sif_r (fun h => by cases h) (fun _ => first_call rl b rx rr w hr hf.right fun y t w1 h1 h1i e1 => ?_)
  refine (St.start w1).newAgg rfl rfl rfl fun b2 w2 S2 e2 => S2.lds 0 (pcT y) rfl ?_
  have eq : l.items ++ y :: t.items = l.items ++ (Tr.node b rl rx rr).items := by rw [h1i]
  exact join_call _ (Nat.le_refl _) (hl.ext (e1.trans e2)) (h1.ext e2) (eq ▸ hf) (eq ▸ hK.ext (e1.trans e2))
end
end Go.Proofs.YtolhlldgnfbemaaGreat
