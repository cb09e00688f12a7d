/- YtabcpghhfeplaaaGreatOPa3: parts of the proof, put together by program. -/
import Derived.Test.YtabcpghhfeplaaaGreatOPa2
set_option linter.unusedVariables false
set_option linter.unusedSimpArgs false
set_option linter.unusedSectionVars false
set_option maxRecDepth 100000
namespace Go.Proofs.YtabcpghhfeplaaaGreat
open Go Go.Vx
noncomputable def F23 (a0 : Option Addr) (a1 : Int) (a2 : Int) (K : Sl → World → Prop) : World → Prop :=
 newO (.cells #[(.slice none 0 0)] 26) fun b1 =>
 callT Tryz.prog 47 #[(.pointer a0), (.int .i64 a1), (.int .i64 a2), (.func (Fn.func 48) #[] #[(.pointer (some (at0 b1)))])] (.tup []) fun (x2 : (Unit)) =>
 ld (.sl) (at0 b1) fun (x3 : Sl) =>
 K x3
noncomputable def h23 : Hint := (hS (hR 1) (hS (hR 1) (hS (hR 5) (hS (hR 2) hL))))
theorem F23_calls {a0 : Option Addr} {a1 : Int} {a2 : Int} {K : Sl → World → Prop} {w : World} (h : F23 a0 a1 a2 K w) : callT Tryz.prog 23 #[(.pointer a0), (.int .i64 a1), (.int .i64 a2)] (.one (.one .sl)) K w := tied tabOk Tryz.func23 h23 [(.pointer a0), (.int .i64 a1), (.int .i64 a2)] (by kernel_rfl) h
noncomputable def F34 (a0 : Int) (a1 : Sl) (K : (Sl × Int × Unit) → World → Prop) : World → Prop :=
 callT Tryz.prog 61 #[(.int .i64 a0)] (.one (.one .bool)) fun (x1 : Bool) =>
 sif (!x1) (
 K (⟨none, 0, 0⟩, (10 : Int), ())) (
 join (S := Sl × Unit) (fun J2 =>
 sloop (S := Sl × Int × Unit) (fun (s4 : Sl × Int × Unit) again5 =>
 sif (decide (s4.2.1 < ((a1.len : Nat) : Int))) (
 callT Tryz.prog 62 #[(.int .i64 a0), (.slice a1.a a1.len a1.cap), (.int .i64 s4.2.1)] (.tup [(.one (.int .i64)), (.one (.int .i64))]) fun (x6 : (Int × Int × Unit)) =>
 newO (.cells #[(.int .i64 x6.1)] 3) fun b7 =>
 rawT Tryz.prog (.one (.one .sl)) (Builtin.append_ #[26, 26] 26 #[(.slice s4.1.a s4.1.len s4.1.cap), (.slice (some (at0 b7)) 1 1)]) fun (x8 : Sl) =>
 again5 (x8, (IntKind.wrap .i64 (s4.2.1 + x6.2.1)), ())) (
 J2 (s4.1, ()))) (⟨none, 0, 0⟩, (0 : Int), ())) fun (s3 : Sl × Unit) =>
 K (s3.1, (0 : Int), ()))
noncomputable def h34 : Hint := (hS (hR 2) (hS (hR 3) (hS (hS (hR 2) (hC (hS (hR 2) hL) hL)) (hS (hR 1) (hS (hR 1) (hJ (8589903744, [(7, tS)]) (.block (.loop 8589903744 [(7, tS), (8, tI)] (hS (hS (hR 4) (hC hL hL)) (.block (hS (hR 9) (hS (hR 5) (hR 4))))))) (hS (hR 3) hL)))))))
theorem F34_calls {a0 : Int} {a1 : Sl} {K : (Sl × Int × Unit) → World → Prop} {w : World} (h : F34 a0 a1 K w) : callT Tryz.prog 34 #[(.int .i64 a0), (.slice a1.a a1.len a1.cap)] (.tup [(.one .sl), (.one (.int .i64))]) K w := tied tabOk Tryz.func34 h34 [(.int .i64 a0), (.slice a1.a a1.len a1.cap)] (by kernel_rfl) h
noncomputable def F35 (a0 : Int) (a1 : Sl) (a2 : Int) (K : (Option Addr × Int × Unit) → World → Prop) : World → Prop :=
 join (S := Bool × Unit) (fun J1 =>
 sif (decide (a0 < (1 : Int))) (
 J1 (true, ())) (
 J1 ((decide (a0 > (4 : Int))), ()))) fun (s2 : Bool × Unit) =>
 sif s2.1 (
 K (none, (10 : Int), ())) (
 join (S := Bool × Unit) (fun J3 =>
 sif (decide (a2 < (0 : Int))) (
 J3 (true, ())) (
 J3 ((decide (a2 > (65536 : Int))), ()))) fun (s4 : Bool × Unit) =>
 sif s4.1 (
 K (none, (1 : Int), ())) (
 sif (decide (((a1.len : Nat) : Int) > a2)) (
 K (none, (50 : Int), ())) (
 rawT Tryz.prog (.one (.one .sl)) (Instr.makeSlice 22 (.int .i64 ((a1.len : Nat) : Int)) (.int .i64 ((a1.len : Nat) : Int))) fun (x5 : Sl) =>
 rawT Tryz.prog (.one (.one (.int .i64))) (Builtin.copy_ #[22, 22] 3 #[(.slice x5.a x5.len x5.cap), (.slice a1.a a1.len a1.cap)]) fun (x6 : Int) =>
 newO (.cells #[(.int .i64 a0), (.int .i64 a2), (.pointer none), (.slice none 0 0)] 107) fun b7 =>
 join (S := Sl × Unit) (fun J8 =>
 sloop (S := Sl × Int × Unit) (fun (s10 : Sl × Int × Unit) again11 =>
 sif (decide (s10.2.1 < ((x5.len : Nat) : Int))) (
 join (S := Int × Unit) (fun J12 =>
 sloop (S := Int × Int × Unit) (fun (s14 : Int × Int × Unit) again15 =>
 join (S := Bool × Unit) (fun J16 =>
 sif (decide (s14.1 < ((x5.len : Nat) : Int))) (
 J16 ((decide (s14.2.1 < (128 : Int))), ())) (
 J16 (false, ()))) fun (s17 : Bool × Unit) =>
 sif s17.1 (
 callT Tryz.prog 63 #[(.int .i64 a0), (.slice x5.a x5.len x5.cap), (.int .i64 s14.1)] (.tup [(.one (.int .i64)), (.one (.int .i64))]) fun (x18 : (Int × Int × Unit)) =>
 again15 ((IntKind.wrap .i64 (s14.1 + x18.2.1)), (IntKind.wrap .i64 (s14.2.1 + (1 : Int))), ())) (
 J12 (s14.1, ()))) (s10.2.1, (0 : Int), ())) fun (s13 : Int × Unit) =>
 slc x5.a s10.2.1 s13.1 s13.1 x5.cap 1 fun x19 =>
 callT Tryz.prog 64 #[(.int .i64 a0), (.slice x19.a x19.len x19.cap), (.int .i64 s10.2.1)] (.one (.agg c112)) fun (x20 : (Sl × Int × Int × Int × Int × Bool × Bool × Unit)) =>
 newO (.cells #[(.slice x20.1.a x20.1.len x20.1.cap), (.int .i64 x20.2.1), (.int .i64 x20.2.2.1), (.int .i64 x20.2.2.2.1), (.int .i64 x20.2.2.2.2.1), (.bool x20.2.2.2.2.2.1), (.bool x20.2.2.2.2.2.2.1)] 112) fun b21 =>
 rawT Tryz.prog (.one (.one .sl)) (Builtin.append_ #[108, 108] 108 #[(.slice s10.1.a s10.1.len s10.1.cap), (.slice (some (at0 b21)) 1 1)]) fun (x22 : Sl) =>
 again11 (x22, s13.1, ())) (
 J8 (s10.1, ()))) (⟨none, 0, 0⟩, (0 : Int), ())) fun (s9 : Sl × Unit) =>
 callT Tryz.prog 65 #[(.slice s9.1.a s9.1.len s9.1.cap)] (.one (.agg c105)) fun (x23 : (Option Addr × Unit)) =>
 nn (some (at0 b7)) fun p24 =>
 aggSt (p24.add 2) (.agg (Cells.vals c105 x23).toArray) 1 <|
 K ((some (at0 b7)), (0 : Int), ()))))
noncomputable def h35 : Hint := (hS (hR 2) (hS (.block (hJ (8323072, [(16, tB)]) (.region [] (.ops 3 (.split 19 (.skips 2 (hO 2)) (hO 4)))) (hC (hS (hR 2) hL) (hJ (1065353216, [(23, tB)]) (.region [] (.ops 3 (.split 26 (.skips 2 (hO 2)) (hO 4)))) (hC (hS (hR 2) hL) (hS (hR 5) (hC (hS (hR 2) hL) hL))))))) (hS (hR 4) (hS (hR 3) (hS (hR 5) (hS (hR 1) (hJ (4835703278423332326800384, [(10, tS)]) (hS (hR 1) (.block (.loop 4835703278423332326800384 [(10, tS), (11, tI)] (hS (hS (hR 4) (hC hL hL)) (.block (hS (hR 3) (hJ (1180590494817504522240, [(12, tI)]) (.block (.loop 1180590494817504522240 [(12, tI), (13, tI)] (hS (hJ (287104476244869120, [(57, tB)]) (.region [] (.ops 5 (.split 54 (hO 3) (.skips 2 (hO 1))))) (hC hL hL)) (hS (.block (hS (hR 9) (hR 4))) (hR 3))))) (hS (hR 12) (hR 2))))))))) (hS (hR 6) (hS (hR 3) hL)))))))))
theorem F35_calls {a0 : Int} {a1 : Sl} {a2 : Int} {K : (Option Addr × Int × Unit) → World → Prop} {w : World} (h : F35 a0 a1 a2 K w) : callT Tryz.prog 35 #[(.int .i64 a0), (.slice a1.a a1.len a1.cap), (.int .i64 a2)] (.tup [(.one .ptr), (.one (.int .i64))]) K w := tied tabOk Tryz.func35 h35 [(.int .i64 a0), (.slice a1.a a1.len a1.cap), (.int .i64 a2)] (by kernel_rfl) h
noncomputable def F40 (a0 : Option Addr) (K : Int → World → Prop) : World → Prop :=
 nn a0 fun p1 =>
 lds c105 (p1.add 2) fun (x2 : (Option Addr × Unit)) =>
 callT Tryz.prog 70 #[(.agg (Cells.vals c105 x2).toArray)] (.one (.agg c110)) fun (x3 : (Int × Int × Int × Bool × Bool × Unit)) =>
 K x3.1
noncomputable def h40 : Hint := (hS (hR 1) (hS (hR 7) hL))
theorem F40_calls {a0 : Option Addr} {K : Int → World → Prop} {w : World} (h : F40 a0 K w) : callT Tryz.prog 40 #[(.pointer a0)] (.one (.one (.int .i64))) K w := tied tabOk Tryz.func40 h40 [(.pointer a0)] (by kernel_rfl) h
noncomputable def F47 (a0 : Option Addr) (a1 : Int) (a2 : Int) (a3 : Value) (K : Unit → World → Prop) : World → Prop :=
 newO (.cells #[(.pointer a0)] 25) fun b1 =>
 chk (oneAll [a3] = true) <|
 newO (.cells #[a3] 79) fun b2 =>
 ld (.ptr) (at0 b1) fun (x3 : Option Addr) =>
 callT Tryz.prog 40 #[(.pointer x3)] (.one (.one (.int .i64))) fun (x4 : Int) =>
 sif (decide ((if (0 : Int) > a1 then (0 : Int) else a1) ≥ (if x4 < a2 then x4 else a2))) (
 K ()) (
 ld (.ptr) (at0 b1) fun (x5 : Option Addr) =>
 callT Tryz.prog 73 #[(.pointer x5), (.int .i64 (if (0 : Int) > a1 then (0 : Int) else a1))] (.tup [(.one (.int .i64)), (.one (.int .i64))]) fun (x6 : (Int × Int × Unit)) =>
 newO (.cells #[(.int .i64 (0 : Int))] 3) fun b7 =>
 stC (at0 b7) (.int .i64 x6.2.1) <|
 newO (.cells #[(.int .i64 (0 : Int))] 3) fun b8 =>
 stC (at0 b8) (.int .i64 (IntKind.wrap .i64 ((if x4 < a2 then x4 else a2) - (if (0 : Int) > a1 then (0 : Int) else a1)))) <|
 ld (.ptr) (at0 b1) fun (x9 : Option Addr) =>
 nn x9 fun p10 =>
 lds c105 (p10.add 2) fun (x11 : (Option Addr × Unit)) =>
 callT Tryz.prog 74 #[(.agg (Cells.vals c105 x11).toArray), (.int .i64 x6.1)] (.one (.one .any)) fun (x12 : Value) =>
 rangeE (S := (Sl × Int × Int × Int × Int × Bool × Bool × Unit) × Unit) Tryz.prog (Slots.vals [(39, (.agg c112))]) x12 (fun l13 rc14 R15 (s16 : (Sl × Int × Int × Int × Int × Bool × Bool × Unit) × Unit) =>
 newO (.cells #[(.slice none 0 0), (.int .i64 (0 : Int)), (.int .i64 (0 : Int)), (.int .i64 (0 : Int)), (.int .i64 (0 : Int)), (.bool false), (.bool false)] 112) fun b18 =>
 aggSt (at0 b18) (.agg (Cells.vals c112 s16.1).toArray) 7 <|
 begR l13 rc14 <|
 sloop (S := Int × Unit) (fun (s19 : Int × Unit) again20 =>
 ld (.sl) (at0 b18) fun (x21 : Sl) =>
 sif (decide (s19.1 < ((x21.len : Nat) : Int))) (
 drew <|
 ld (.ptr) (at0 b1) fun (x22 : Option Addr) =>
 nn x22 fun p23 =>
 ld (.int .i64) p23 fun (x24 : Int) =>
 ld (.sl) (at0 b18) fun (x25 : Sl) =>
 callT Tryz.prog 63 #[(.int .i64 x24), (.slice x25.a x25.len x25.cap), (.int .i64 s19.1)] (.tup [(.one (.int .i64)), (.one (.int .i64))]) fun (x26 : (Int × Int × Unit)) =>
 join (S := Unit) (fun J27 =>
 ld (.int .i64) (at0 b7) fun (x29 : Int) =>
 sif (decide (x29 > (0 : Int))) (
 ld (.int .i64) (at0 b7) fun (x30 : Int) =>
 stC (at0 b7) (.int .i64 (IntKind.wrap .i64 (x30 - (1 : Int)))) <|
 J27 ()) (
 join (S := Unit) (fun J31 =>
 ld (.int .i64) (⟨b18, 1, none⟩ : Addr) fun (x33 : Int) =>
 sif (decide (x33 < (0 : Int))) (
 ld (.any) (at0 b2) fun (x34 : Value) =>
 callX Tryz.prog (do let d ← Deferred.ofValue x34 #[(.int .i64 x26.1), (.int .i64 (-1 : Int))]; invoke d.target d.args : Sem Next) (.tup []) fun (x35 : (Unit)) =>
 J31 ()) (
 ld (.any) (at0 b2) fun (x36 : Value) =>
 ld (.int .i64) (⟨b18, 1, none⟩ : Addr) fun (x37 : Int) =>
 callX Tryz.prog (do let d ← Deferred.ofValue x36 #[(.int .i64 x26.1), (.int .i64 (IntKind.wrap .i64 (x37 + s19.1)))]; invoke d.target d.args : Sem Next) (.tup []) fun (x38 : (Unit)) =>
 J31 ())) fun (s32 : Unit) =>
 ld (.int .i64) (at0 b8) fun (x39 : Int) =>
 stC (at0 b8) (.int .i64 (IntKind.wrap .i64 (x39 - (1 : Int)))) <|
 ld (.int .i64) (at0 b8) fun (x40 : Int) =>
 sif (x40 == (0 : Int)) (
 endR l13 rc14 (some .ret) R15) (
 J27 ()))) fun (s28 : Unit) =>
 again20 ((IntKind.wrap .i64 (s19.1 + x26.2.1)), ())) (
 endR l13 rc14 none R15)) ((0 : Int), ())) fun D17 => aft (
 endM D17 <|
 K ()) (fun i41 =>
 onE i41 0 (
 endM D17 <|
 K ()) (
 fun _ => False)) (
 endM D17 <|
 K ()))
noncomputable def h47 : Hint := (hS (hR 2) (hS (hR 8) (hS (hS (hR 3) (hC hL hL)) (hS (hR 9) (hS (hR 5) (hS (hR 6) (.block (.range [(39, (.agg c112))] (hR 2) (.block (hS (hR 1) (.block (.loop 1208925819613529663107072 [(12, tI)] (hS (hS (hR 5) (hC hL hL)) (.block (hS (.region [0, 1, 2, 3, 4, 5, 6, 7, 8, 9, 10, 11, 12] (hO 13)) (hJ (151115655394234608910336, []) (hS (hR 2) (hC (hR 3) (hJ (9443580044234683580416, []) (hS (hR 3) (hC (hR 3) (hR 7))) (hS (hR 3) (hS (hR 2) (hC hL hL)))))) (hR 4)))))))))))))))))
theorem F47_calls {a0 : Option Addr} {a1 : Int} {a2 : Int} {a3 : Value} {K : Unit → World → Prop} {w : World} (h : F47 a0 a1 a2 a3 K w) : callT Tryz.prog 47 #[(.pointer a0), (.int .i64 a1), (.int .i64 a2), a3] (.tup []) K w := tied tabOk Tryz.func47 h47 [(.pointer a0), (.int .i64 a1), (.int .i64 a2), a3] (by kernel_rfl) h
noncomputable def F48 (a0 : Int) (a1 : Int) (v0 : Addr) (K : Unit → World → Prop) : World → Prop :=
 ld (.sl) v0 fun (x1 : Sl) =>
 newO (.cells #[(.int .i64 a0)] 3) fun b2 =>
 rawT Tryz.prog (.one (.one .sl)) (Builtin.append_ #[26, 26] 26 #[(.slice x1.a x1.len x1.cap), (.slice (some (at0 b2)) 1 1)]) fun (x3 : Sl) =>
 stC v0 (.slice x3.a x3.len x3.cap) <|
 K ()
noncomputable def h48 : Hint := (hR 5)
theorem F48_calls {a0 : Int} {a1 : Int} {v0 : Addr} {K : Unit → World → Prop} {w : World} (h : F48 a0 a1 v0 K w) : callT Tryz.prog 48 #[(.int .i64 a0), (.int .i64 a1), (.pointer (some v0))] (.tup []) K w := tied tabOk Tryz.func48 h48 [(.int .i64 a0), (.int .i64 a1), (.pointer (some v0))] (by kernel_rfl) h
noncomputable def F50 (a0 : Option Addr) (a1 : Sl) (K : Int → World → Prop) : World → Prop :=
 callT Tryz.prog 77 #[(.pointer a0), (.slice a1.a a1.len a1.cap)] (.one (.one (.int .i64))) fun (x1 : Int) =>
 sif (x1 != (0 : Int)) (
 K x1) (
 join (S := Unit) (fun J2 =>
 sloop (S := Int × Unit) (fun (s4 : Int × Unit) again5 =>
 sif (decide (s4.1 ≥ (0 : Int))) (
 join (S := Unit) (fun J6 =>
 ix a1.a a1.len s4.1 fun p8 =>
 lds c83 (p8.add (scaled (Int.toNat s4.1) 3)) fun (x9 : (Int × Int × Sl × Unit)) =>
 newO (.cells #[(.int .i64 (0 : Int)), (.int .i64 (0 : Int)), (.slice none 0 0)] 83) fun b10 =>
 aggSt (at0 b10) (.agg (Cells.vals c83 x9).toArray) 3 <|
 join (S := Bool × Unit) (fun J11 =>
 ld (.int .i64) (at0 b10) fun (x13 : Int) =>
 ld (.int .i64) (⟨b10, 1, none⟩ : Addr) fun (x14 : Int) =>
 sif (decide (x13 < x14)) (
 J11 (true, ())) (
 ld (.sl) (⟨b10, 2, none⟩ : Addr) fun (x15 : Sl) =>
 J11 ((decide (((x15.len : Nat) : Int) > (0 : Int))), ()))) fun (s12 : Bool × Unit) =>
 sif s12.1 (
 ld (.int .i64) (at0 b10) fun (x16 : Int) =>
 ld (.int .i64) (⟨b10, 1, none⟩ : Addr) fun (x17 : Int) =>
 ld (.sl) (⟨b10, 2, none⟩ : Addr) fun (x18 : Sl) =>
 callT Tryz.prog 78 #[(.pointer a0), (.int .i64 x16), (.int .i64 x17), (.slice x18.a x18.len x18.cap)] (.tup []) fun (x19 : (Unit)) =>
 J6 ()) (
 J6 ())) fun (s7 : Unit) =>
 again5 ((IntKind.wrap .i64 (s4.1 - (1 : Int))), ())) (
 J2 ())) ((IntKind.wrap .i64 (((a1.len : Nat) : Int) - (1 : Int))), ())) fun (s3 : Unit) =>
 K (0 : Int))
noncomputable def h50 : Hint := (hS (hR 1) (hS (hS (hR 4) (hS (hR 2) (hC (hS (hR 2) hL) hL))) (hJ (17592186028224, []) (hS (hR 4) (.block (.loop 17592185913536 [(6, tI)] (hS (hS (hR 2) (hC hL hL)) (hJ (17592183947392, []) (.block (hS (hR 6) (hJ (68685922304, [(35, tB)]) (.region [] (.ops 6 (.split 30 (.skips 4 (hO 1)) (hO 5)))) (hC (hR 8) hL)))) (hR 3)))))) (hS (hR 1) hL))))
theorem F50_calls {a0 : Option Addr} {a1 : Sl} {K : Int → World → Prop} {w : World} (h : F50 a0 a1 K w) : callT Tryz.prog 50 #[(.pointer a0), (.slice a1.a a1.len a1.cap)] (.one (.one (.int .i64))) K w := tied tabOk Tryz.func50 h50 [(.pointer a0), (.slice a1.a a1.len a1.cap)] (by kernel_rfl) h
noncomputable def F61 (a0 : Int) (K : Bool → World → Prop) : World → Prop :=
 sif (decide (a0 ≥ (1 : Int))) (
 K (decide (a0 ≤ (4 : Int)))) (
 K false)
noncomputable def h61 : Hint := (hS (hR 1) (hS (.region [] (.ops 3 (.split 5 (hO 4) (.skips 2 (hO 2))))) hL))
theorem F61_calls {a0 : Int} {K : Bool → World → Prop} {w : World} (h : F61 a0 K w) : callT Tryz.prog 61 #[(.int .i64 a0)] (.one (.one .bool)) K w := tied tabOk Tryz.func61 h61 [(.int .i64 a0)] (by kernel_rfl) h
noncomputable def F62 (a0 : Int) (a1 : Sl) (a2 : Int) (K : (Int × Int × Unit) → World → Prop) : World → Prop :=
 sif (a0 == (1 : Int)) (
 callT Tryz.prog 83 #[(.slice a1.a a1.len a1.cap), (.int .i64 a2)] (.tup [(.one (.int .i64)), (.one (.int .i64))]) fun (x1 : (Int × Int × Unit)) =>
 K (x1.1, x1.2.1, ())) (
 sif (a0 == (4 : Int)) (
 ix a1.a a1.len a2 fun p2 =>
 ld (.int .u8) (p2.add (scaled (Int.toNat a2) 1)) fun (x3 : Int) =>
 K ((IntKind.wrap .i64 x3), (1 : Int), ())) (
 callT Tryz.prog 84 #[(.int .i64 a0), (.slice a1.a a1.len a1.cap), (.int .i64 a2)] (.one (.one (.int .i64))) fun (x4 : Int) =>
 sif (decide (x4 < (0 : Int))) (
 ix a1.a a1.len a2 fun p5 =>
 ld (.int .u8) (p5.add (scaled (Int.toNat a2) 1)) fun (x6 : Int) =>
 K ((IntKind.wrap .i64 ((-1 : Int) - (IntKind.wrap .i64 x6))), (1 : Int), ())) (
 callT Tryz.prog 84 #[(.int .i64 a0), (.slice a1.a a1.len a1.cap), (.int .i64 (IntKind.wrap .i64 (a2 + (2 : Int))))] (.one (.one (.int .i64))) fun (x7 : Int) =>
 join (S := Bool × Unit) (fun J8 =>
 sif (decide (x4 ≥ (55296 : Int))) (
 sif (decide (x4 < (56320 : Int))) (
 sif (decide (x7 ≥ (56320 : Int))) (
 J8 ((decide (x7 < (57344 : Int))), ())) (
 J8 (false, ()))) (
 J8 (false, ()))) (
 J8 (false, ()))) fun (s9 : Bool × Unit) =>
 sif s9.1 (
 K ((IntKind.wrap .i64 ((IntKind.wrap .i64 ((IntKind.wrap .i64 ((65536 : Int) + (IntKind.wrap .i64 ((IntKind.wrap .i64 (x4 - (55296 : Int))) * (1024 : Int))))) + x7)) - (56320 : Int))), (4 : Int), ())) (
 K (x4, (2 : Int), ())))))
noncomputable def h62 : Hint := (hS (hR 2) (hS (hS (hR 2) (hC (hS (hR 7) hL) hL)) (hS (hS (hR 2) (hC (hS (hR 7) hL) hL)) (hS (hR 5) (hS (hS (hR 2) (hC (hS (hR 8) hL) hL)) (hS (hR 6) (hS (hJ (36026597995708416, [(54, tB)]) (.region [] (.ops 3 (.split 43 (.ops 4 (.split 47 (.ops 4 (.split 51 (hO 3) (.skips 2 (hO 1)))) (.skips 2 (.ops 2 (.skips 2 (hO 1)))))) (.skips 2 (.ops 2 (.skips 2 (.ops 2 (.skips 2 (hO 1))))))))) (hC (hS (hR 9) hL) hL)) (hS (hR 3) hL))))))))
theorem F62_calls {a0 : Int} {a1 : Sl} {a2 : Int} {K : (Int × Int × Unit) → World → Prop} {w : World} (h : F62 a0 a1 a2 K w) : callT Tryz.prog 62 #[(.int .i64 a0), (.slice a1.a a1.len a1.cap), (.int .i64 a2)] (.tup [(.one (.int .i64)), (.one (.int .i64))]) K w := tied tabOk Tryz.func62 h62 [(.int .i64 a0), (.slice a1.a a1.len a1.cap), (.int .i64 a2)] (by kernel_rfl) h
noncomputable def F63 (a0 : Int) (a1 : Sl) (a2 : Int) (K : (Int × Int × Unit) → World → Prop) : World → Prop :=
 callT Tryz.prog 85 #[(.int .i64 a0)] (.one (.one .any)) fun (x1 : Value) =>
 join (S := Bool × Unit) (fun J2 =>
 rdB Tryz.prog (do eqGuard .eql 132 (Operand.tmp 11) (Operand.const Value.nilIface) x1 .nilIface; binOp .eql 132 x1 .nilIface : Sem Value) fun r4 =>
 sif r4 (
 J2 (true, ())) (
 sif (decide (a2 < (0 : Int))) (
 J2 (true, ())) (
 J2 ((decide (a2 ≥ ((a1.len : Nat) : Int))), ())))) fun (s3 : Bool × Unit) =>
 sif s3.1 (
 K ((0 : Int), (0 : Int), ())) (
 drew <|
 slc a1.a a2 ((a1.len : Nat) : Int) ((a1.cap : Nat) : Int) a1.cap 1 fun x5 =>
 chk (methOk Tryz.prog x1 "copyist/codec.first") <|
 callX Tryz.prog (invoke (.fn (.method "copyist/codec.first") #[]) (#[x1] ++ #[(.slice x5.a x5.len x5.cap)])) (.tup [(.one (.int .i64)), (.one (.int .i64))]) fun (x6 : (Int × Int × Unit)) =>
 K (x6.1, x6.2.1, ()))
noncomputable def h63 : Hint := (hS (hR 2) (hS (hR 3) (hS (hJ (8386560, [(22, tB)]) (.region [] (.ops 3 (.split 13 (.skips 2 (.ops 2 (.skips 4 (hO 1)))) (.ops 4 (.split 17 (.skips 4 (hO 1)) (hO 5)))))) (hC (hS (hR 2) hL) hL)) (hS (.region [0, 1, 2, 3, 4, 5, 6, 7, 8, 9, 10, 11] (hO 12)) hL))))
theorem F63_calls {a0 : Int} {a1 : Sl} {a2 : Int} {K : (Int × Int × Unit) → World → Prop} {w : World} (h : F63 a0 a1 a2 K w) : callT Tryz.prog 63 #[(.int .i64 a0), (.slice a1.a a1.len a1.cap), (.int .i64 a2)] (.tup [(.one (.int .i64)), (.one (.int .i64))]) K w := tied tabOk Tryz.func63 h63 [(.int .i64 a0), (.slice a1.a a1.len a1.cap), (.int .i64 a2)] (by kernel_rfl) h
noncomputable def F64 (a0 : Int) (a1 : Sl) (a2 : Int) (K : (Sl × Int × Int × Int × Int × Bool × Bool × Unit) → World → Prop) : World → Prop :=
 newO (.cells #[(.slice none 0 0), (.int .i64 (0 : Int)), (.int .i64 (0 : Int)), (.int .i64 (0 : Int)), (.int .i64 (0 : Int)), (.bool false), (.bool false)] 112) fun b1 =>
 newO (.cells #[(.slice none 0 0), (.int .i64 (0 : Int)), (.int .i64 (0 : Int)), (.int .i64 (0 : Int)), (.int .i64 (0 : Int)), (.bool false), (.bool false)] 112) fun b2 =>
 aggSt (at0 b2) (.agg #[(.slice a1.a a1.len a1.cap), (.int .i64 a2), (.int .i64 (0 : Int)), (.int .i64 (0 : Int)), (.int .i64 (0 : Int)), (.bool false), (.bool false)]) 7 <|
 join (S := Unit) (fun J3 =>
 sloop (S := Int × Unit) (fun (s5 : Int × Unit) again6 =>
 sif (decide (s5.1 < ((a1.len : Nat) : Int))) (
 callT Tryz.prog 63 #[(.int .i64 a0), (.slice a1.a a1.len a1.cap), (.int .i64 s5.1)] (.tup [(.one (.int .i64)), (.one (.int .i64))]) fun (x7 : (Int × Int × Unit)) =>
 drew <|
 lds c110 (⟨b2, 2, none⟩ : Addr) fun (x8 : (Int × Int × Int × Bool × Bool × Unit)) =>
 callT Tryz.prog 87 #[(.int .i64 x7.1), (.int .i64 x7.2.1)] (.one (.agg c110)) fun (x9 : (Int × Int × Int × Bool × Bool × Unit)) =>
 keep (fun w => cellsAt w (⟨b2, 2, none⟩ : Addr) 0 (Cells.vals c110 x8)) <|
 callT Tryz.prog 86 #[(.agg (Cells.vals c110 x8).toArray), (.agg (Cells.vals c110 x9).toArray)] (.one (.agg c110)) fun (x10 : (Int × Int × Int × Bool × Bool × Unit)) =>
 aggSt (⟨b2, 2, none⟩ : Addr) (.agg (Cells.vals c110 x10).toArray) 5 <|
 again6 ((IntKind.wrap .i64 (s5.1 + x7.2.1)), ())) (
 J3 ())) ((0 : Int), ())) fun (s4 : Unit) =>
 lds c112 (at0 b2) fun (x11 : (Sl × Int × Int × Int × Int × Bool × Bool × Unit)) =>
 aggSt (at0 b1) (.agg (Cells.vals c112 x11).toArray) 7 <|
 lds c112 (at0 b1) fun (x12 : (Sl × Int × Int × Int × Int × Bool × Bool × Unit)) =>
 K x12
noncomputable def h64 : Hint := (hS (hR 1) (hS (hR 5) (hJ (34359723776, []) (hS (hR 1) (.block (.loop 34359723776 [(8, tI)] (hS (hS (hR 4) (hC hL hL)) (.block (hS (hR 9) (hS (.region [0, 1, 2, 3, 4, 5, 6, 7] (hO 8)) (hR 4)))))))) (hS (hR 2) hL))))
theorem F64_calls {a0 : Int} {a1 : Sl} {a2 : Int} {K : (Sl × Int × Int × Int × Int × Bool × Bool × Unit) → World → Prop} {w : World} (h : F64 a0 a1 a2 K w) : callT Tryz.prog 64 #[(.int .i64 a0), (.slice a1.a a1.len a1.cap), (.int .i64 a2)] (.one (.agg c112)) K w := tied tabOk Tryz.func64 h64 [(.int .i64 a0), (.slice a1.a a1.len a1.cap), (.int .i64 a2)] (by kernel_rfl) h
noncomputable def F65 (a0 : Sl) (K : (Option Addr × Unit) → World → Prop) : World → Prop :=
 newO (.cells #[(.pointer none)] 105) fun b1 =>
 callT Tryz.prog 88 #[(.slice a0.a a0.len a0.cap)] (.one (.one .ptr)) fun (x2 : Option Addr) =>
 aggSt (at0 b1) (.agg #[(.pointer x2)]) 1 <|
 lds c105 (at0 b1) fun (x3 : (Option Addr × Unit)) =>
 K x3
noncomputable def h65 : Hint := (hS (hR 1) (hS (hR 4) hL))
theorem F65_calls {a0 : Sl} {K : (Option Addr × Unit) → World → Prop} {w : World} (h : F65 a0 K w) : callT Tryz.prog 65 #[(.slice a0.a a0.len a0.cap)] (.one (.agg c105)) K w := tied tabOk Tryz.func65 h65 [(.slice a0.a a0.len a0.cap)] (by kernel_rfl) h
noncomputable def F66 (a0 : Option Addr) (a1 : Int) (K : Int → World → Prop) : World → Prop :=
 sif (decide (a1 ≤ (0 : Int))) (
 K (0 : Int)) (
 callT Tryz.prog 40 #[(.pointer a0)] (.one (.one (.int .i64))) fun (x1 : Int) =>
 sif (decide (a1 ≥ x1)) (
 nn a0 fun p2 =>
 lds c105 (p2.add 2) fun (x3 : (Option Addr × Unit)) =>
 callT Tryz.prog 70 #[(.agg (Cells.vals c105 x3).toArray)] (.one (.agg c110)) fun (x4 : (Int × Int × Int × Bool × Bool × Unit)) =>
 K x4.2.2.1) (
 callT Tryz.prog 89 #[(.pointer a0), (.int .i64 a1)] (.one (.agg c110)) fun (x5 : (Int × Int × Int × Bool × Bool × Unit)) =>
 newO (.cells #[(.int .i64 (0 : Int)), (.int .i64 (0 : Int)), (.int .i64 (0 : Int)), (.bool false), (.bool false)] 110) fun b6 =>
 aggSt (at0 b6) (.agg (Cells.vals c110 x5).toArray) 5 <|
 join (S := Bool × Unit) (fun J7 =>
 ld (.bool) (⟨b6, 4, none⟩ : Addr) fun (x9 : Bool) =>
 sif x9 (
 callT Tryz.prog 23 #[(.pointer a0), (.int .i64 a1), (.int .i64 (IntKind.wrap .i64 (a1 + (1 : Int))))] (.one (.one .sl)) fun (x10 : Sl) =>
 ix x10.a x10.len (0 : Int) fun p11 =>
 ld (.int .i64) (p11.add (scaled (Int.toNat (0 : Int)) 1)) fun (x12 : Int) =>
 J7 ((x12 == (10 : Int)), ())) (
 J7 (false, ()))) fun (s8 : Bool × Unit) =>
 sif s8.1 (
 ld (.int .i64) (⟨b6, 2, none⟩ : Addr) fun (x13 : Int) =>
 K (IntKind.wrap .i64 (x13 - (1 : Int)))) (
 ld (.int .i64) (⟨b6, 2, none⟩ : Addr) fun (x14 : Int) =>
 K x14)))
noncomputable def h66 : Hint := (hS (hR 1) (hS (.block (hS (hR 3) (hC (hS (hR 1) hL) (hS (hR 5) (hC (hS (hR 7) hL) hL))))) (hS (hR 5) (hS (hJ (34351349760, [(34, tB)]) (.region [] (.ops 3 (.split 25 (hO 9) (.skips 8 (hO 1))))) (hC (hS (hR 4) hL) hL)) (hS (hR 3) hL)))))
theorem F66_calls {a0 : Option Addr} {a1 : Int} {K : Int → World → Prop} {w : World} (h : F66 a0 a1 K w) : callT Tryz.prog 66 #[(.pointer a0), (.int .i64 a1)] (.one (.one (.int .i64))) K w := tied tabOk Tryz.func66 h66 [(.pointer a0), (.int .i64 a1)] (by kernel_rfl) h
noncomputable def F67 (a0 : Option Addr) (a1 : Int) (K : Int → World → Prop) : World → Prop :=
 sif (a1 == (0 : Int)) (
 K (0 : Int)) (
 join (S := Bool × Unit) (fun J1 =>
 sif (decide (a1 < (0 : Int))) (
 J1 (true, ())) (
 nn a0 fun p3 =>
 lds c105 (p3.add 2) fun (x4 : (Option Addr × Unit)) =>
 callT Tryz.prog 70 #[(.agg (Cells.vals c105 x4).toArray)] (.one (.agg c110)) fun (x5 : (Int × Int × Int × Bool × Bool × Unit)) =>
 J1 ((decide (a1 > x5.2.2.1)), ()))) fun (s2 : Bool × Unit) =>
 sif s2.1 (
 K (-1 : Int)) (
 nn a0 fun p6 =>
 lds c105 (p6.add 2) fun (x7 : (Option Addr × Unit)) =>
 callT Tryz.prog 90 #[(.agg (Cells.vals c105 x7).toArray), (.int .i64 (1 : Int)), (.int .i64 a1)] (.one (.one (.int .i64))) fun (x8 : Int) =>
 nn a0 fun p9 =>
 lds c105 (p9.add 2) fun (x10 : (Option Addr × Unit)) =>
 callT Tryz.prog 91 #[(.agg (Cells.vals c105 x10).toArray), (.int .i64 (IntKind.wrap .i64 (x8 - (1 : Int))))] (.one (.agg c110)) fun (x11 : (Int × Int × Int × Bool × Bool × Unit)) =>
 newO (.cells #[(.int .i64 (0 : Int)), (.int .i64 (0 : Int)), (.int .i64 (0 : Int)), (.bool false), (.bool false)] 110) fun b12 =>
 aggSt (at0 b12) (.agg (Cells.vals c110 x11).toArray) 5 <|
 nn a0 fun p13 =>
 lds c105 (p13.add 2) fun (x14 : (Option Addr × Unit)) =>
 callT Tryz.prog 92 #[(.agg (Cells.vals c105 x14).toArray), (.int .i64 (IntKind.wrap .i64 (x8 - (1 : Int))))] (.tup [(.agg c112), (.one .bool)]) fun (x15 : ((Sl × Int × Int × Int × Int × Bool × Bool × Unit) × Bool × Unit)) =>
 newO (.cells #[(.slice none 0 0), (.int .i64 (0 : Int)), (.int .i64 (0 : Int)), (.int .i64 (0 : Int)), (.int .i64 (0 : Int)), (.bool false), (.bool false)] 112) fun b16 =>
 aggSt (at0 b16) (.agg (Cells.vals c112 x15.1).toArray) 7 <|
 join (S := Unit) (fun J17 =>
 sloop (S := Int × Unit) (fun (s19 : Int × Unit) again20 =>
 join (S := Bool × Unit) (fun J21 =>
 ld (.sl) (at0 b16) fun (x23 : Sl) =>
 sif (decide (s19.1 < ((x23.len : Nat) : Int))) (
 ld (.int .i64) (⟨b12, 2, none⟩ : Addr) fun (x24 : Int) =>
 J21 ((decide (x24 < a1)), ())) (
 J21 (false, ()))) fun (s22 : Bool × Unit) =>
 sif s22.1 (
 drew <|
 nn a0 fun p25 =>
 ld (.int .i64) p25 fun (x26 : Int) =>
 ld (.sl) (at0 b16) fun (x27 : Sl) =>
 callT Tryz.prog 63 #[(.int .i64 x26), (.slice x27.a x27.len x27.cap), (.int .i64 s19.1)] (.tup [(.one (.int .i64)), (.one (.int .i64))]) fun (x28 : (Int × Int × Unit)) =>
 drew <|
 lds c110 (at0 b12) fun (x29 : (Int × Int × Int × Bool × Bool × Unit)) =>
 callT Tryz.prog 87 #[(.int .i64 x28.1), (.int .i64 x28.2.1)] (.one (.agg c110)) fun (x30 : (Int × Int × Int × Bool × Bool × Unit)) =>
 keep (fun w => cellsAt w (at0 b12) 0 (Cells.vals c110 x29)) <|
 callT Tryz.prog 86 #[(.agg (Cells.vals c110 x29).toArray), (.agg (Cells.vals c110 x30).toArray)] (.one (.agg c110)) fun (x31 : (Int × Int × Int × Bool × Bool × Unit)) =>
 aggSt (at0 b12) (.agg (Cells.vals c110 x31).toArray) 5 <|
 again20 ((IntKind.wrap .i64 (s19.1 + x28.2.1)), ())) (
 J17 ())) ((0 : Int), ())) fun (s18 : Unit) =>
 ld (.int .i64) (at0 b12) fun (x32 : Int) =>
 ld (.int .i64) (at0 b12) fun (x33 : Int) =>
 callT Tryz.prog 23 #[(.pointer a0), (.int .i64 x32), (.int .i64 (IntKind.wrap .i64 (x33 + (1 : Int))))] (.one (.one .sl)) fun (x34 : Sl) =>
 join (S := Bool × Unit) (fun J35 =>
 ld (.bool) (⟨b12, 4, none⟩ : Addr) fun (x37 : Bool) =>
 sif x37 (
 sif (((x34.len : Nat) : Int) == (1 : Int)) (
 ix x34.a x34.len (0 : Int) fun p38 =>
 ld (.int .i64) (p38.add (scaled (Int.toNat (0 : Int)) 1)) fun (x39 : Int) =>
 J35 ((x39 == (10 : Int)), ())) (
 J35 (false, ()))) (
 J35 (false, ()))) fun (s36 : Bool × Unit) =>
 sif s36.1 (
 ld (.int .i64) (at0 b12) fun (x40 : Int) =>
 K (IntKind.wrap .i64 (x40 + (1 : Int)))) (
 ld (.int .i64) (at0 b12) fun (x41 : Int) =>
 K x41)))
noncomputable def h67 : Hint := (hS (hR 1) (hS (.block (hS (hR 3) (hC (hS (hR 1) hL) (hJ (536805376, [(16, tB)]) (.region [] (.ops 3 (.split 19 (.skips 8 (hO 2)) (hO 10)))) (hC (hS (hR 1) hL) hL))))) (hS (hR 8) (hS (hR 8) (hS (hR 12) (hJ (2417851636977458535730688, []) (hS (hR 1) (.block (.loop 2417851636977458535730688 [(9, tI)] (hS (hJ (4609434218613702656, [(61, tB)]) (.region [] (.ops 6 (.split 56 (hO 5) (.skips 4 (hO 1))))) (hC hL hL)) (.block (hS (.region [0, 1, 2, 3, 4, 5, 6, 7, 8, 9, 10, 11, 12] (hO 13)) (hS (.region [0, 1, 2, 3, 4, 5] (hO 6)) (hR 4)))))))) (hS (hS (hR 8) (hJ (2534991715446637457924681629696, [(100, tB)]) (.region [] (.ops 3 (.split 90 (.ops 5 (.split 95 (hO 5) (.skips 4 (hO 1)))) (.skips 3 (.ops 2 (.skips 4 (hO 1))))))) (hC (hS (hR 4) hL) hL))) (hS (hR 3) hL))))))))
theorem F67_calls {a0 : Option Addr} {a1 : Int} {K : Int → World → Prop} {w : World} (h : F67 a0 a1 K w) : callT Tryz.prog 67 #[(.pointer a0), (.int .i64 a1)] (.one (.one (.int .i64))) K w := tied tabOk Tryz.func67 h67 [(.pointer a0), (.int .i64 a1)] (by kernel_rfl) h
noncomputable def F70 (a0 : (Option Addr × Unit)) (K : (Int × Int × Int × Bool × Bool × Unit) → World → Prop) : World → Prop :=
 newO (.cells #[(.pointer a0.1)] 105) fun b1 =>
 newO (.cells #[(.int .i64 (0 : Int)), (.int .i64 (0 : Int)), (.int .i64 (0 : Int)), (.bool false), (.bool false)] 110) fun b2 =>
 ld (.ptr) (at0 b1) fun (x3 : Option Addr) =>
 sif (Option.isNone x3) (
 newO (.cells #[(.int .i64 (0 : Int)), (.int .i64 (0 : Int)), (.int .i64 (0 : Int)), (.bool false), (.bool false)] 110) fun b4 =>
 lds c110 (at0 b4) fun (x5 : (Int × Int × Int × Bool × Bool × Unit)) =>
 aggSt (at0 b2) (.agg (Cells.vals c110 x5).toArray) 5 <|
 lds c110 (at0 b2) fun (x6 : (Int × Int × Int × Bool × Bool × Unit)) =>
 K x6) (
 ld (.ptr) (at0 b1) fun (x7 : Option Addr) =>
 nn x7 fun p8 =>
 lds c110 (p8.add 11) fun (x9 : (Int × Int × Int × Bool × Bool × Unit)) =>
 aggSt (at0 b2) (.agg (Cells.vals c110 x9).toArray) 5 <|
 lds c110 (at0 b2) fun (x10 : (Int × Int × Int × Bool × Bool × Unit)) =>
 K x10)
noncomputable def h70 : Hint := (hS (hR 2) (hS (hS (hR 3) (hC (hS (hR 1) (hS (hR 2) hL)) hL)) (hS (hR 6) hL)))
theorem F70_calls {a0 : (Option Addr × Unit)} {K : (Int × Int × Int × Bool × Bool × Unit) → World → Prop} {w : World} (h : F70 a0 K w) : callT Tryz.prog 70 #[(.agg (Cells.vals c105 a0).toArray)] (.one (.agg c110)) K w := tied tabOk Tryz.func70 h70 [(.agg (Cells.vals c105 a0).toArray)] (by kernel_rfl) h
noncomputable def F73 (a0 : Option Addr) (a1 : Int) (K : (Int × Int × Unit) → World → Prop) : World → Prop :=
 sif (decide (a1 ≤ (0 : Int))) (
 K ((0 : Int), (0 : Int), ())) (
 nn a0 fun p1 =>
 lds c105 (p1.add 2) fun (x2 : (Option Addr × Unit)) =>
 callT Tryz.prog 90 #[(.agg (Cells.vals c105 x2).toArray), (.int .i64 (0 : Int)), (.int .i64 a1)] (.one (.one (.int .i64))) fun (x3 : Int) =>
 nn a0 fun p4 =>
 lds c105 (p4.add 2) fun (x5 : (Option Addr × Unit)) =>
 callT Tryz.prog 91 #[(.agg (Cells.vals c105 x5).toArray), (.int .i64 (IntKind.wrap .i64 (x3 - (1 : Int))))] (.one (.agg c110)) fun (x6 : (Int × Int × Int × Bool × Bool × Unit)) =>
 K ((IntKind.wrap .i64 (x3 - (1 : Int))), (IntKind.wrap .i64 (a1 - x6.1)), ()))
noncomputable def h73 : Hint := (hS (hR 2) (hS (hS (hR 2) (hC (hS (hR 2) hL) hL)) (hS (hR 8) (hS (hR 12) hL))))
theorem F73_calls {a0 : Option Addr} {a1 : Int} {K : (Int × Int × Unit) → World → Prop} {w : World} (h : F73 a0 a1 K w) : callT Tryz.prog 73 #[(.pointer a0), (.int .i64 a1)] (.tup [(.one (.int .i64)), (.one (.int .i64))]) K w := tied tabOk Tryz.func73 h73 [(.pointer a0), (.int .i64 a1)] (by kernel_rfl) h
noncomputable def F74 (a0 : (Option Addr × Unit)) (a1 : Int) (K : Value → World → Prop) : World → Prop :=
 newO (.cells #[(.pointer a0.1)] 105) fun b1 =>
 newO (.cells #[(.int .i64 a1)] 3) fun b2 =>
 K (.func (Fn.func 100) #[] #[(.pointer (some (at0 b1))), (.pointer (some (at0 b2)))])
noncomputable def h74 : Hint := (hS (hR 3) (hS (hR 2) hL))
theorem F74_calls {a0 : (Option Addr × Unit)} {a1 : Int} {K : Value → World → Prop} {w : World} (h : F74 a0 a1 K w) : callT Tryz.prog 74 #[(.agg (Cells.vals c105 a0).toArray), (.int .i64 a1)] (.one (.one .any)) K w := tied tabOk Tryz.func74 h74 [(.agg (Cells.vals c105 a0).toArray), (.int .i64 a1)] (by kernel_rfl) h
noncomputable def F77 (a0 : Option Addr) (a1 : Sl) (K : Int → World → Prop) : World → Prop :=
 sif (decide (((a1.len : Nat) : Int) > (70000 : Int))) (
 K (3 : Int)) (
 callT Tryz.prog 40 #[(.pointer a0)] (.one (.one (.int .i64))) fun (x1 : Int) =>
 join (S := Unit) (fun J2 =>
 sloop (S := Int × Int × Unit) (fun (s4 : Int × Int × Unit) again5 =>
 sif (decide (s4.2.1 < ((a1.len : Nat) : Int))) (
 ix a1.a a1.len s4.2.1 fun p6 =>
 lds c83 (p6.add (scaled (Int.toNat s4.2.1) 3)) fun (x7 : (Int × Int × Sl × Unit)) =>
 newO (.cells #[(.int .i64 (0 : Int)), (.int .i64 (0 : Int)), (.slice none 0 0)] 83) fun b8 =>
 aggSt (at0 b8) (.agg (Cells.vals c83 x7).toArray) 3 <|
 join (S := Bool × Unit) (fun J9 =>
 ld (.int .i64) (at0 b8) fun (x11 : Int) =>
 sif (decide (x11 < s4.1)) (
 J9 (true, ())) (
 ld (.int .i64) (⟨b8, 1, none⟩ : Addr) fun (x12 : Int) =>
 ld (.int .i64) (at0 b8) fun (x13 : Int) =>
 sif (decide (x12 < x13)) (
 J9 (true, ())) (
 ld (.int .i64) (⟨b8, 1, none⟩ : Addr) fun (x14 : Int) =>
 J9 ((decide (x14 > x1)), ())))) fun (s10 : Bool × Unit) =>
 sif s10.1 (
 K (2 : Int)) (
 ld (.int .i64) (⟨b8, 1, none⟩ : Addr) fun (x15 : Int) =>
 again5 (x15, (IntKind.wrap .i64 (s4.2.1 + (1 : Int))), ()))) (
 J2 ())) ((0 : Int), (0 : Int), ())) fun (s3 : Unit) =>
 callT Tryz.prog 110 #[(.pointer a0)] (.one (.one (.int .i64))) fun (x16 : Int) =>
 join (S := Int × Unit) (fun J17 =>
 sloop (S := Int × Int × Unit) (fun (s19 : Int × Int × Unit) again20 =>
 sif (decide (s19.2.1 < ((a1.len : Nat) : Int))) (
 join (S := Int × Unit) (fun J21 =>
 ix a1.a a1.len s19.2.1 fun p23 =>
 lds c83 (p23.add (scaled (Int.toNat s19.2.1) 3)) fun (x24 : (Int × Int × Sl × Unit)) =>
 newO (.cells #[(.int .i64 (0 : Int)), (.int .i64 (0 : Int)), (.slice none 0 0)] 83) fun b25 =>
 aggSt (at0 b25) (.agg (Cells.vals c83 x24).toArray) 3 <|
 ld (.sl) (⟨b25, 2, none⟩ : Addr) fun (x26 : Sl) =>
 sloop (S := Int × Int × Unit) (fun (s27 : Int × Int × Unit) again28 =>
 sif (decide (s27.2.1 < ((x26.len : Nat) : Int))) (
 ix x26.a x26.len s27.2.1 fun p29 =>
 ld (.int .i64) (p29.add (scaled (Int.toNat s27.2.1) 1)) fun (x30 : Int) =>
 nn a0 fun p31 =>
 ld (.int .i64) p31 fun (x32 : Int) =>
 callT Tryz.prog 111 #[(.int .i64 x32), (.int .i64 x30)] (.one (.one (.int .i64))) fun (x33 : Int) =>
 sif (x33 == (0 : Int)) (
 K (11 : Int)) (
 again28 ((IntKind.wrap .i64 (s27.1 + x33)), (IntKind.wrap .i64 (s27.2.1 + (1 : Int))), ()))) (
 J21 (s27.1, ()))) (s19.1, (0 : Int), ())) fun (s22 : Int × Unit) =>
 again20 (s22.1, (IntKind.wrap .i64 (s19.2.1 + (1 : Int))), ())) (
 J17 (s19.1, ()))) (x16, (0 : Int), ())) fun (s18 : Int × Unit) =>
 join (S := Int × Unit) (fun J34 =>
 sloop (S := Int × Int × Unit) (fun (s36 : Int × Int × Unit) again37 =>
 sif (decide (s36.2.1 < ((a1.len : Nat) : Int))) (
 join (S := Int × Unit) (fun J38 =>
 ix a1.a a1.len s36.2.1 fun p40 =>
 lds c83 (p40.add (scaled (Int.toNat s36.2.1) 3)) fun (x41 : (Int × Int × Sl × Unit)) =>
 newO (.cells #[(.int .i64 (0 : Int)), (.int .i64 (0 : Int)), (.slice none 0 0)] 83) fun b42 =>
 aggSt (at0 b42) (.agg (Cells.vals c83 x41).toArray) 3 <|
 ld (.int .i64) (⟨b42, 1, none⟩ : Addr) fun (x43 : Int) =>
 ld (.int .i64) (at0 b42) fun (x44 : Int) =>
 sif (decide (x43 > x44)) (
 drew <|
 ld (.int .i64) (⟨b42, 1, none⟩ : Addr) fun (x45 : Int) =>
 ld (.int .i64) (at0 b42) fun (x46 : Int) =>
 callT Tryz.prog 89 #[(.pointer a0), (.int .i64 x45)] (.one (.agg c110)) fun (x47 : (Int × Int × Int × Bool × Bool × Unit)) =>
 keep (fun w => w.cell? (at0 b42) = some (Cell.val (.int .i64) x46)) <|
 callT Tryz.prog 89 #[(.pointer a0), (.int .i64 x46)] (.one (.agg c110)) fun (x48 : (Int × Int × Int × Bool × Bool × Unit)) =>
 J38 ((IntKind.wrap .i64 (s36.1 - (IntKind.wrap .i64 (x47.2.1 - x48.2.1)))), ())) (
 J38 (s36.1, ()))) fun (s39 : Int × Unit) =>
 again37 (s39.1, (IntKind.wrap .i64 (s36.2.1 + (1 : Int))), ())) (
 J34 (s36.1, ()))) (s18.1, (0 : Int), ())) fun (s35 : Int × Unit) =>
 nn a0 fun p49 =>
 ld (.int .i64) (p49.add 1) fun (x50 : Int) =>
 sif (decide (s35.1 > x50)) (
 K (50 : Int)) (
 K (0 : Int)))
noncomputable def h77 : Hint := (hS (hR 1) (hS (hS (hR 3) (hC (hS (hR 1) hL) hL)) (hS (hR 4) (hJ (281474972516656, []) (hS (hR 3) (.block (.loop 281474959933744 [(5, tI), (24, tI)] (hS (hR 1) (hS (hC hL hL) (hS (.block (hS (hR 4) (hS (hJ (35184103653376, [(44, tB)]) (.region [] (.ops 5 (.split 32 (.skips 5 (.ops 2 (.skips 4 (hO 1)))) (.ops 7 (.split 39 (.skips 4 (hO 1)) (hO 5)))))) (hC (hS (hR 1) hL) hL)) (hR 3)))) (hR 2))))))) (hS (hR 3) (hJ (75557862600014416603664, [(9, tI)]) (hS (hR 3) (.block (.loop 75557859222314696075792 [(9, tI), (52, tI)] (hS (hR 1) (hS (hC hL hL) (hJ (37778913848558652254736, [(9, tI)]) (.block (hS (hR 4) (hS (hR 4) (.block (.loop 37778355402204858311184 [(9, tI), (59, tI)] (hS (hR 1) (hS (hC hL hL) (hS (.block (hS (hR 3) (hS (hR 7) (hS (hS (hR 2) (hC (hS (hR 1) hL) hL)) (hR 4))))) (hR 2))))))))) (hR 2))))))) (hJ (2535301124898595077079083057664, [(9, tI)]) (hS (hR 3) (.block (.loop 2535300898225003899336112800256 [(9, tI), (78, tI)] (hS (hR 1) (hS (hC hL hL) (hJ (1267649391302409786867528565248, [(9, tI)]) (.block (hS (hR 4) (hS (hR 5) (hC (.region [0, 1, 2, 3, 6, 7, 8, 4, 5, 9, 10, 11, 12, 13] (hO 14)) hL)))) (hR 2))))))) (hS (hS (hR 6) (hC (hS (hR 1) hL) hL)) (hS (hR 1) hL)))))))))
theorem F77_calls {a0 : Option Addr} {a1 : Sl} {K : Int → World → Prop} {w : World} (h : F77 a0 a1 K w) : callT Tryz.prog 77 #[(.pointer a0), (.slice a1.a a1.len a1.cap)] (.one (.one (.int .i64))) K w := tied tabOk Tryz.func77 h77 [(.pointer a0), (.slice a1.a a1.len a1.cap)] (by kernel_rfl) h
noncomputable def F78 (a0 : Option Addr) (a1 : Int) (a2 : Int) (a3 : Sl) (K : Unit → World → Prop) : World → Prop :=
 callT Tryz.prog 73 #[(.pointer a0), (.int .i64 a1)] (.tup [(.one (.int .i64)), (.one (.int .i64))]) fun (x1 : (Int × Int × Unit)) =>
 callT Tryz.prog 73 #[(.pointer a0), (.int .i64 a2)] (.tup [(.one (.int .i64)), (.one (.int .i64))]) fun (x2 : (Int × Int × Unit)) =>
 join (S := Sl × Unit) (fun J3 =>
 nn a0 fun p5 =>
 lds c105 (p5.add 2) fun (x6 : (Option Addr × Unit)) =>
 callT Tryz.prog 92 #[(.agg (Cells.vals c105 x6).toArray), (.int .i64 x1.1)] (.tup [(.agg c112), (.one .bool)]) fun (x7 : ((Sl × Int × Int × Int × Int × Bool × Bool × Unit) × Bool × Unit)) =>
 newO (.cells #[(.slice none 0 0), (.int .i64 (0 : Int)), (.int .i64 (0 : Int)), (.int .i64 (0 : Int)), (.int .i64 (0 : Int)), (.bool false), (.bool false)] 112) fun b8 =>
 aggSt (at0 b8) (.agg (Cells.vals c112 x7.1).toArray) 7 <|
 join (S := Bool × Unit) (fun J9 =>
 sif x7.2.1 (
 J9 ((decide (x1.2.1 > (0 : Int))), ())) (
 J9 (false, ()))) fun (s10 : Bool × Unit) =>
 sif s10.1 (
 join (S := Addr × Unit) (fun J11 =>
 drew <|
 lds c112 (at0 b8) fun (x13 : (Sl × Int × Int × Int × Int × Bool × Bool × Unit)) =>
 nn a0 fun p14 =>
 ld (.int .i64) p14 fun (x15 : Int) =>
 both (
 newO (.cells #[(.slice none 0 0), (.int .i64 (0 : Int)), (.int .i64 (0 : Int)), (.int .i64 (0 : Int)), (.int .i64 (0 : Int)), (.bool false), (.bool false)] 112) fun b16 =>
 keep (fun w => w.cell? p14 = some (Cell.val (.int .i64) x15)) <|
 keep (fun w => cellsAt w (at0 b8) 0 (Cells.vals c112 x13)) <|
 both (
 newO (.cells #[(.slice none 0 0), (.int .i64 (0 : Int)), (.int .i64 (0 : Int)), (.int .i64 (0 : Int)), (.int .i64 (0 : Int)), (.bool false), (.bool false)] 112) fun b17 =>
 keep (fun w => w.cell? p14 = some (Cell.val (.int .i64) x15)) <|
 keep (fun w => cellsAt w (at0 b8) 0 (Cells.vals c112 x13)) <|
 callT Tryz.prog 112 #[(.agg (Cells.vals c112 x13).toArray), (.int .i64 x15), (.int .i64 x1.2.1)] (.tup [(.agg c112), (.agg c112)]) fun (x18 : ((Sl × Int × Int × Int × Int × Bool × Bool × Unit) × (Sl × Int × Int × Int × Int × Bool × Bool × Unit) × Unit)) =>
 aggSt (at0 b16) (.agg (Cells.vals c112 x18.1).toArray) 7 <|
 aggSt (at0 b17) (.agg (Cells.vals c112 x18.2.1).toArray) 7 <|
 J11 ((at0 b16), ())) <|
 callT Tryz.prog 112 #[(.agg (Cells.vals c112 x13).toArray), (.int .i64 x15), (.int .i64 x1.2.1)] (.tup [(.agg c112), (.agg c112)]) fun (x19 : ((Sl × Int × Int × Int × Int × Bool × Bool × Unit) × (Sl × Int × Int × Int × Int × Bool × Bool × Unit) × Unit)) =>
 both (
 newO (.cells #[(.slice none 0 0), (.int .i64 (0 : Int)), (.int .i64 (0 : Int)), (.int .i64 (0 : Int)), (.int .i64 (0 : Int)), (.bool false), (.bool false)] 112) fun b20 =>
 keep (fun w => w.cell? p14 = some (Cell.val (.int .i64) x15)) <|
 keep (fun w => cellsAt w (at0 b8) 0 (Cells.vals c112 x13)) <|
 aggSt (at0 b16) (.agg (Cells.vals c112 x19.1).toArray) 7 <|
 aggSt (at0 b20) (.agg (Cells.vals c112 x19.2.1).toArray) 7 <|
 J11 ((at0 b16), ())) <|
 nothing) <|
 both (
 newO (.cells #[(.slice none 0 0), (.int .i64 (0 : Int)), (.int .i64 (0 : Int)), (.int .i64 (0 : Int)), (.int .i64 (0 : Int)), (.bool false), (.bool false)] 112) fun b21 =>
 keep (fun w => w.cell? p14 = some (Cell.val (.int .i64) x15)) <|
 keep (fun w => cellsAt w (at0 b8) 0 (Cells.vals c112 x13)) <|
 both (
 newO (.cells #[(.slice none 0 0), (.int .i64 (0 : Int)), (.int .i64 (0 : Int)), (.int .i64 (0 : Int)), (.int .i64 (0 : Int)), (.bool false), (.bool false)] 112) fun b22 =>
 keep (fun w => w.cell? p14 = some (Cell.val (.int .i64) x15)) <|
 keep (fun w => cellsAt w (at0 b8) 0 (Cells.vals c112 x13)) <|
 callT Tryz.prog 112 #[(.agg (Cells.vals c112 x13).toArray), (.int .i64 x15), (.int .i64 x1.2.1)] (.tup [(.agg c112), (.agg c112)]) fun (x23 : ((Sl × Int × Int × Int × Int × Bool × Bool × Unit) × (Sl × Int × Int × Int × Int × Bool × Bool × Unit) × Unit)) =>
 aggSt (at0 b22) (.agg (Cells.vals c112 x23.1).toArray) 7 <|
 aggSt (at0 b21) (.agg (Cells.vals c112 x23.2.1).toArray) 7 <|
 J11 ((at0 b22), ())) <|
 callT Tryz.prog 112 #[(.agg (Cells.vals c112 x13).toArray), (.int .i64 x15), (.int .i64 x1.2.1)] (.tup [(.agg c112), (.agg c112)]) fun (x24 : ((Sl × Int × Int × Int × Int × Bool × Bool × Unit) × (Sl × Int × Int × Int × Int × Bool × Bool × Unit) × Unit)) =>
 both (
 newO (.cells #[(.slice none 0 0), (.int .i64 (0 : Int)), (.int .i64 (0 : Int)), (.int .i64 (0 : Int)), (.int .i64 (0 : Int)), (.bool false), (.bool false)] 112) fun b25 =>
 keep (fun w => w.cell? p14 = some (Cell.val (.int .i64) x15)) <|
 keep (fun w => cellsAt w (at0 b8) 0 (Cells.vals c112 x13)) <|
 aggSt (at0 b25) (.agg (Cells.vals c112 x24.1).toArray) 7 <|
 aggSt (at0 b21) (.agg (Cells.vals c112 x24.2.1).toArray) 7 <|
 J11 ((at0 b25), ())) <|
 nothing) <|
 callT Tryz.prog 112 #[(.agg (Cells.vals c112 x13).toArray), (.int .i64 x15), (.int .i64 x1.2.1)] (.tup [(.agg c112), (.agg c112)]) fun (x26 : ((Sl × Int × Int × Int × Int × Bool × Bool × Unit) × (Sl × Int × Int × Int × Int × Bool × Bool × Unit) × Unit)) =>
 both (
 newO (.cells #[(.slice none 0 0), (.int .i64 (0 : Int)), (.int .i64 (0 : Int)), (.int .i64 (0 : Int)), (.int .i64 (0 : Int)), (.bool false), (.bool false)] 112) fun b27 =>
 keep (fun w => w.cell? p14 = some (Cell.val (.int .i64) x15)) <|
 keep (fun w => cellsAt w (at0 b8) 0 (Cells.vals c112 x13)) <|
 both (
 newO (.cells #[(.slice none 0 0), (.int .i64 (0 : Int)), (.int .i64 (0 : Int)), (.int .i64 (0 : Int)), (.int .i64 (0 : Int)), (.bool false), (.bool false)] 112) fun b28 =>
 keep (fun w => w.cell? p14 = some (Cell.val (.int .i64) x15)) <|
 keep (fun w => cellsAt w (at0 b8) 0 (Cells.vals c112 x13)) <|
 aggSt (at0 b27) (.agg (Cells.vals c112 x26.1).toArray) 7 <|
 aggSt (at0 b28) (.agg (Cells.vals c112 x26.2.1).toArray) 7 <|
 J11 ((at0 b27), ())) <|
 nothing) <|
 both (
 newO (.cells #[(.slice none 0 0), (.int .i64 (0 : Int)), (.int .i64 (0 : Int)), (.int .i64 (0 : Int)), (.int .i64 (0 : Int)), (.bool false), (.bool false)] 112) fun b29 =>
 keep (fun w => w.cell? p14 = some (Cell.val (.int .i64) x15)) <|
 keep (fun w => cellsAt w (at0 b8) 0 (Cells.vals c112 x13)) <|
 both (
 newO (.cells #[(.slice none 0 0), (.int .i64 (0 : Int)), (.int .i64 (0 : Int)), (.int .i64 (0 : Int)), (.int .i64 (0 : Int)), (.bool false), (.bool false)] 112) fun b30 =>
 keep (fun w => w.cell? p14 = some (Cell.val (.int .i64) x15)) <|
 keep (fun w => cellsAt w (at0 b8) 0 (Cells.vals c112 x13)) <|
 aggSt (at0 b30) (.agg (Cells.vals c112 x26.1).toArray) 7 <|
 aggSt (at0 b29) (.agg (Cells.vals c112 x26.2.1).toArray) 7 <|
 J11 ((at0 b30), ())) <|
 nothing) <|
 nothing) fun (s12 : Addr × Unit) =>
 lds c112 s12.1 fun (x31 : (Sl × Int × Int × Int × Int × Bool × Bool × Unit)) =>
 newO (.cells #[(.slice x31.1.a x31.1.len x31.1.cap), (.int .i64 x31.2.1), (.int .i64 x31.2.2.1), (.int .i64 x31.2.2.2.1), (.int .i64 x31.2.2.2.2.1), (.bool x31.2.2.2.2.2.1), (.bool x31.2.2.2.2.2.2.1)] 112) fun b32 =>
 rawT Tryz.prog (.one (.one .sl)) (Builtin.append_ #[108, 108] 108 #[(.slice none 0 0), (.slice (some (at0 b32)) 1 1)]) fun (x33 : Sl) =>
 J3 (x33, ())) (
 J3 (⟨none, 0, 0⟩, ()))) fun (s4 : Sl × Unit) =>
 callT Tryz.prog 113 #[(.pointer a0), (.slice a3.a a3.len a3.cap)] (.one (.one .sl)) fun (x34 : Sl) =>
 rawT Tryz.prog (.one (.one .sl)) (Builtin.append_ #[108, 108] 108 #[(.slice s4.1.a s4.1.len s4.1.cap), (.slice x34.a x34.len x34.cap)]) fun (x35 : Sl) =>
 join (S := Sl × Unit) (fun J36 =>
 nn a0 fun p38 =>
 lds c105 (p38.add 2) fun (x39 : (Option Addr × Unit)) =>
 callT Tryz.prog 92 #[(.agg (Cells.vals c105 x39).toArray), (.int .i64 x2.1)] (.tup [(.agg c112), (.one .bool)]) fun (x40 : ((Sl × Int × Int × Int × Int × Bool × Bool × Unit) × Bool × Unit)) =>
 newO (.cells #[(.slice none 0 0), (.int .i64 (0 : Int)), (.int .i64 (0 : Int)), (.int .i64 (0 : Int)), (.int .i64 (0 : Int)), (.bool false), (.bool false)] 112) fun b41 =>
 aggSt (at0 b41) (.agg (Cells.vals c112 x40.1).toArray) 7 <|
 sif x40.2.1 (
 join (S := Addr × Unit) (fun J42 =>
 drew <|
 lds c112 (at0 b41) fun (x44 : (Sl × Int × Int × Int × Int × Bool × Bool × Unit)) =>
 nn a0 fun p45 =>
 ld (.int .i64) p45 fun (x46 : Int) =>
 both (
 newO (.cells #[(.slice none 0 0), (.int .i64 (0 : Int)), (.int .i64 (0 : Int)), (.int .i64 (0 : Int)), (.int .i64 (0 : Int)), (.bool false), (.bool false)] 112) fun b47 =>
 keep (fun w => w.cell? p45 = some (Cell.val (.int .i64) x46)) <|
 keep (fun w => cellsAt w (at0 b41) 0 (Cells.vals c112 x44)) <|
 both (
 newO (.cells #[(.slice none 0 0), (.int .i64 (0 : Int)), (.int .i64 (0 : Int)), (.int .i64 (0 : Int)), (.int .i64 (0 : Int)), (.bool false), (.bool false)] 112) fun b48 =>
 keep (fun w => w.cell? p45 = some (Cell.val (.int .i64) x46)) <|
 keep (fun w => cellsAt w (at0 b41) 0 (Cells.vals c112 x44)) <|
 callT Tryz.prog 112 #[(.agg (Cells.vals c112 x44).toArray), (.int .i64 x46), (.int .i64 x2.2.1)] (.tup [(.agg c112), (.agg c112)]) fun (x49 : ((Sl × Int × Int × Int × Int × Bool × Bool × Unit) × (Sl × Int × Int × Int × Int × Bool × Bool × Unit) × Unit)) =>
 aggSt (at0 b47) (.agg (Cells.vals c112 x49.1).toArray) 7 <|
 aggSt (at0 b48) (.agg (Cells.vals c112 x49.2.1).toArray) 7 <|
 J42 ((at0 b48), ())) <|
 callT Tryz.prog 112 #[(.agg (Cells.vals c112 x44).toArray), (.int .i64 x46), (.int .i64 x2.2.1)] (.tup [(.agg c112), (.agg c112)]) fun (x50 : ((Sl × Int × Int × Int × Int × Bool × Bool × Unit) × (Sl × Int × Int × Int × Int × Bool × Bool × Unit) × Unit)) =>
 both (
 newO (.cells #[(.slice none 0 0), (.int .i64 (0 : Int)), (.int .i64 (0 : Int)), (.int .i64 (0 : Int)), (.int .i64 (0 : Int)), (.bool false), (.bool false)] 112) fun b51 =>
 keep (fun w => w.cell? p45 = some (Cell.val (.int .i64) x46)) <|
 keep (fun w => cellsAt w (at0 b41) 0 (Cells.vals c112 x44)) <|
 aggSt (at0 b47) (.agg (Cells.vals c112 x50.1).toArray) 7 <|
 aggSt (at0 b51) (.agg (Cells.vals c112 x50.2.1).toArray) 7 <|
 J42 ((at0 b51), ())) <|
 nothing) <|
 both (
 newO (.cells #[(.slice none 0 0), (.int .i64 (0 : Int)), (.int .i64 (0 : Int)), (.int .i64 (0 : Int)), (.int .i64 (0 : Int)), (.bool false), (.bool false)] 112) fun b52 =>
 keep (fun w => w.cell? p45 = some (Cell.val (.int .i64) x46)) <|
 keep (fun w => cellsAt w (at0 b41) 0 (Cells.vals c112 x44)) <|
 both (
 newO (.cells #[(.slice none 0 0), (.int .i64 (0 : Int)), (.int .i64 (0 : Int)), (.int .i64 (0 : Int)), (.int .i64 (0 : Int)), (.bool false), (.bool false)] 112) fun b53 =>
 keep (fun w => w.cell? p45 = some (Cell.val (.int .i64) x46)) <|
 keep (fun w => cellsAt w (at0 b41) 0 (Cells.vals c112 x44)) <|
 callT Tryz.prog 112 #[(.agg (Cells.vals c112 x44).toArray), (.int .i64 x46), (.int .i64 x2.2.1)] (.tup [(.agg c112), (.agg c112)]) fun (x54 : ((Sl × Int × Int × Int × Int × Bool × Bool × Unit) × (Sl × Int × Int × Int × Int × Bool × Bool × Unit) × Unit)) =>
 aggSt (at0 b53) (.agg (Cells.vals c112 x54.1).toArray) 7 <|
 aggSt (at0 b52) (.agg (Cells.vals c112 x54.2.1).toArray) 7 <|
 J42 ((at0 b52), ())) <|
 callT Tryz.prog 112 #[(.agg (Cells.vals c112 x44).toArray), (.int .i64 x46), (.int .i64 x2.2.1)] (.tup [(.agg c112), (.agg c112)]) fun (x55 : ((Sl × Int × Int × Int × Int × Bool × Bool × Unit) × (Sl × Int × Int × Int × Int × Bool × Bool × Unit) × Unit)) =>
 both (
 newO (.cells #[(.slice none 0 0), (.int .i64 (0 : Int)), (.int .i64 (0 : Int)), (.int .i64 (0 : Int)), (.int .i64 (0 : Int)), (.bool false), (.bool false)] 112) fun b56 =>
 keep (fun w => w.cell? p45 = some (Cell.val (.int .i64) x46)) <|
 keep (fun w => cellsAt w (at0 b41) 0 (Cells.vals c112 x44)) <|
 aggSt (at0 b56) (.agg (Cells.vals c112 x55.1).toArray) 7 <|
 aggSt (at0 b52) (.agg (Cells.vals c112 x55.2.1).toArray) 7 <|
 J42 ((at0 b52), ())) <|
 nothing) <|
 callT Tryz.prog 112 #[(.agg (Cells.vals c112 x44).toArray), (.int .i64 x46), (.int .i64 x2.2.1)] (.tup [(.agg c112), (.agg c112)]) fun (x57 : ((Sl × Int × Int × Int × Int × Bool × Bool × Unit) × (Sl × Int × Int × Int × Int × Bool × Bool × Unit) × Unit)) =>
 both (
 newO (.cells #[(.slice none 0 0), (.int .i64 (0 : Int)), (.int .i64 (0 : Int)), (.int .i64 (0 : Int)), (.int .i64 (0 : Int)), (.bool false), (.bool false)] 112) fun b58 =>
 keep (fun w => w.cell? p45 = some (Cell.val (.int .i64) x46)) <|
 keep (fun w => cellsAt w (at0 b41) 0 (Cells.vals c112 x44)) <|
 both (
 newO (.cells #[(.slice none 0 0), (.int .i64 (0 : Int)), (.int .i64 (0 : Int)), (.int .i64 (0 : Int)), (.int .i64 (0 : Int)), (.bool false), (.bool false)] 112) fun b59 =>
 keep (fun w => w.cell? p45 = some (Cell.val (.int .i64) x46)) <|
 keep (fun w => cellsAt w (at0 b41) 0 (Cells.vals c112 x44)) <|
 aggSt (at0 b58) (.agg (Cells.vals c112 x57.1).toArray) 7 <|
 aggSt (at0 b59) (.agg (Cells.vals c112 x57.2.1).toArray) 7 <|
 J42 ((at0 b59), ())) <|
 nothing) <|
 both (
 newO (.cells #[(.slice none 0 0), (.int .i64 (0 : Int)), (.int .i64 (0 : Int)), (.int .i64 (0 : Int)), (.int .i64 (0 : Int)), (.bool false), (.bool false)] 112) fun b60 =>
 keep (fun w => w.cell? p45 = some (Cell.val (.int .i64) x46)) <|
 keep (fun w => cellsAt w (at0 b41) 0 (Cells.vals c112 x44)) <|
 both (
 newO (.cells #[(.slice none 0 0), (.int .i64 (0 : Int)), (.int .i64 (0 : Int)), (.int .i64 (0 : Int)), (.int .i64 (0 : Int)), (.bool false), (.bool false)] 112) fun b61 =>
 keep (fun w => w.cell? p45 = some (Cell.val (.int .i64) x46)) <|
 keep (fun w => cellsAt w (at0 b41) 0 (Cells.vals c112 x44)) <|
 aggSt (at0 b61) (.agg (Cells.vals c112 x57.1).toArray) 7 <|
 aggSt (at0 b60) (.agg (Cells.vals c112 x57.2.1).toArray) 7 <|
 J42 ((at0 b60), ())) <|
 nothing) <|
 nothing) fun (s43 : Addr × Unit) =>
 ld (.int .i64) (s43.1.add 2) fun (x62 : Int) =>
 sif (decide (x62 > (0 : Int))) (
 lds c112 s43.1 fun (x63 : (Sl × Int × Int × Int × Int × Bool × Bool × Unit)) =>
 newO (.cells #[(.slice x63.1.a x63.1.len x63.1.cap), (.int .i64 x63.2.1), (.int .i64 x63.2.2.1), (.int .i64 x63.2.2.2.1), (.int .i64 x63.2.2.2.2.1), (.bool x63.2.2.2.2.2.1), (.bool x63.2.2.2.2.2.2.1)] 112) fun b64 =>
 rawT Tryz.prog (.one (.one .sl)) (Builtin.append_ #[108, 108] 108 #[(.slice x35.a x35.len x35.cap), (.slice (some (at0 b64)) 1 1)]) fun (x65 : Sl) =>
 J36 (x65, ())) (
 J36 (x35, ()))) (
 J36 (x35, ()))) fun (s37 : Sl × Unit) =>
 drew <|
 nn a0 fun p66 =>
 lds c105 (p66.add 2) fun (x67 : (Option Addr × Unit)) =>
 nn a0 fun p68 =>
 lds c105 (p68.add 2) fun (x69 : (Option Addr × Unit)) =>
 callT Tryz.prog 115 #[(.agg (Cells.vals c105 x69).toArray)] (.one (.one (.int .i64))) fun (x70 : Int) =>
 keep (fun w => cellsAt w (p66.add 2) 0 (Cells.vals c105 x67)) <|
 callT Tryz.prog 114 #[(.agg (Cells.vals c105 x67).toArray), (.int .i64 x1.1), (.int .i64 (if x70 < (IntKind.wrap .i64 (x2.1 + (1 : Int))) then x70 else (IntKind.wrap .i64 (x2.1 + (1 : Int))))), (.slice s37.1.a s37.1.len s37.1.cap)] (.tup [(.agg c105), (.one (.int .i64))]) fun (x71 : ((Option Addr × Unit) × Int × Unit)) =>
 nn a0 fun p72 =>
 aggSt (p72.add 2) (.agg (Cells.vals c105 x71.1).toArray) 1 <|
 K ()
noncomputable def h78 : Hint := (hS (hR 8) (hS (hR 8) (hS (hR 1) (hJ (2305843000623886336, [(12, tS)]) (hS (hR 12) (hJ (136339441844224, [(46, tB)]) (.region [] (.ops 2 (.split 43 (hO 3) (.skips 2 (hO 1))))) (hC (hJ (143974450587598848, [(15, (.one .addr))]) (.region [0, 1, 2, 3, 4, 5, 6, 7, 8, 9, 12, 13] (.float [10, 11] (.ops 6 (.alt none (.alt none (.plain (hO 6)) (.ops 4 (.alt none (.plain (hO 2)) .stop))) (.alt none (.alt none (.plain (hO 6)) (.ops 4 (.alt none (.plain (hO 2)) .stop))) (.ops 4 (.alt none (.alt none (.plain (hO 2)) .stop) (.alt none (.alt none (.plain (hO 2)) .stop) .stop)))))))) (hR 5)) hL))) (hS (hR 6) (hJ (19807040554779108103549751296, [(12, tS)]) (hS (hR 12) (hS (hR 1) (hC (hJ (77295694591610352859348992, [(20, (.one .addr))]) (.region [0, 1, 2, 3, 4, 5, 6, 7, 8, 9, 12, 13] (.float [10, 11] (.ops 6 (.alt none (.alt none (.plain (hO 6)) (.ops 4 (.alt none (.plain (hO 2)) .stop))) (.alt none (.alt none (.plain (hO 6)) (.ops 4 (.alt none (.plain (hO 2)) .stop))) (.ops 4 (.alt none (.alt none (.plain (hO 2)) .stop) (.alt none (.alt none (.plain (hO 2)) .stop) .stop)))))))) (hS (hR 4) (hC (hR 5) hL))) hL))) (.region [0, 1, 2, 3, 4, 5, 6, 7, 8, 9, 10, 11, 14, 12, 13, 15, 16, 17, 18, 19, 20, 21] (hO 22))))))))
theorem F78_calls {a0 : Option Addr} {a1 : Int} {a2 : Int} {a3 : Sl} {K : Unit → World → Prop} {w : World} (h : F78 a0 a1 a2 a3 K w) : callT Tryz.prog 78 #[(.pointer a0), (.int .i64 a1), (.int .i64 a2), (.slice a3.a a3.len a3.cap)] (.tup []) K w := tied tabOk Tryz.func78 h78 [(.pointer a0), (.int .i64 a1), (.int .i64 a2), (.slice a3.a a3.len a3.cap)] (by kernel_rfl) h
noncomputable def F83 (a0 : Sl) (a1 : Int) (K : (Int × Int × Unit) → World → Prop) : World → Prop :=
 join (S := Unit) (fun J1 =>
 sloop (S := Int × Unit) (fun (s3 : Int × Unit) again4 =>
 join (S := Bool × Unit) (fun J5 =>
 sif (decide (s3.1 ≤ (4 : Int))) (
 J5 ((decide ((IntKind.wrap .i64 (a1 + s3.1)) ≤ ((a0.len : Nat) : Int))), ())) (
 J5 (false, ()))) fun (s6 : Bool × Unit) =>
 sif s6.1 (
 join (S := Unit) (fun J7 =>
 callT Tryz.prog 116 #[(.slice a0.a a0.len a0.cap), (.int .i64 a1), (.int .i64 s3.1)] (.one (.one (.int .i64))) fun (x9 : Int) =>
 callT Tryz.prog 117 #[(.int .i64 x9)] (.one (.one .bool)) fun (x10 : Bool) =>
 sif (!x10) (
 J7 ()) (
 callT Tryz.prog 118 #[(.int .i64 x9)] (.one (.one .sl)) fun (x11 : Sl) =>
 callT Tryz.prog 119 #[(.slice a0.a a0.len a0.cap), (.int .i64 a1), (.slice x11.a x11.len x11.cap)] (.one (.one .bool)) fun (x12 : Bool) =>
 join (S := Bool × Unit) (fun J13 =>
 sif (((x11.len : Nat) : Int) == s3.1) (
 J13 (x12, ())) (
 J13 (false, ()))) fun (s14 : Bool × Unit) =>
 sif s14.1 (
 K (x9, s3.1, ())) (
 J7 ()))) fun (s8 : Unit) =>
 again4 ((IntKind.wrap .i64 (s3.1 + (1 : Int))), ())) (
 J1 ())) ((1 : Int), ())) fun (s2 : Unit) =>
 ix a0.a a0.len a1 fun p15 =>
 ld (.int .u8) (p15.add (scaled (Int.toNat a1) 1)) fun (x16 : Int) =>
 K ((IntKind.wrap .i64 ((-1 : Int) - (IntKind.wrap .i64 x16))), (1 : Int), ())
noncomputable def h83 : Hint := (hS (hR 2) (hJ (70368744177648, []) (hS (hR 1) (.block (.loop 70368744177648 [(6, tI)] (hS (hJ (2095104, [(20, tB)]) (.region [] (.ops 3 (.split 13 (hO 7) (.skips 6 (hO 1))))) (hC hL hL)) (hJ (70368735791024, []) (.block (hS (hR 5) (hS (hR 3) (hS (hS (hR 2) (hC hL hL)) (hS (hR 3) (hS (hR 5) (hJ (17454747090944, [(43, tB)]) (.region [] (.ops 5 (.split 41 (hO 2) (.skips 1 (hO 1))))) (hC (hS (hR 4) hL) hL)))))))) (hR 3)))))) (hS (hR 8) hL)))
theorem F83_calls {a0 : Sl} {a1 : Int} {K : (Int × Int × Unit) → World → Prop} {w : World} (h : F83 a0 a1 K w) : callT Tryz.prog 83 #[(.slice a0.a a0.len a0.cap), (.int .i64 a1)] (.tup [(.one (.int .i64)), (.one (.int .i64))]) K w := tied tabOk Tryz.func83 h83 [(.slice a0.a a0.len a0.cap), (.int .i64 a1)] (by kernel_rfl) h
noncomputable def F84 (a0 : Int) (a1 : Sl) (a2 : Int) (K : Int → World → Prop) : World → Prop :=
 sif (decide ((IntKind.wrap .i64 (a2 + (2 : Int))) > ((a1.len : Nat) : Int))) (
 K (-1 : Int)) (
 sif (a0 == (2 : Int)) (
 drew <|
 ix a1.a a1.len a2 fun p1 =>
 ld (.int .u8) (p1.add (scaled (Int.toNat a2) 1)) fun (x2 : Int) =>
 ix a1.a a1.len (IntKind.wrap .i64 (a2 + (1 : Int))) fun p3 =>
 ld (.int .u8) (p3.add (scaled (Int.toNat (IntKind.wrap .i64 (a2 + (1 : Int)))) 1)) fun (x4 : Int) =>
 K (IntKind.wrap .i64 ((IntKind.wrap .i64 x2) + (IntKind.wrap .i64 ((256 : Int) * (IntKind.wrap .i64 x4)))))) (
 drew <|
 ix a1.a a1.len a2 fun p5 =>
 ld (.int .u8) (p5.add (scaled (Int.toNat a2) 1)) fun (x6 : Int) =>
 ix a1.a a1.len (IntKind.wrap .i64 (a2 + (1 : Int))) fun p7 =>
 ld (.int .u8) (p7.add (scaled (Int.toNat (IntKind.wrap .i64 (a2 + (1 : Int)))) 1)) fun (x8 : Int) =>
 K (IntKind.wrap .i64 ((IntKind.wrap .i64 ((256 : Int) * (IntKind.wrap .i64 x6))) + (IntKind.wrap .i64 x8)))))
noncomputable def h84 : Hint := (hS (hR 1) (hS (hS (hR 5) (hC (hS (hR 1) hL) hL)) (hS (hS (hR 2) (hC (hS (.region [0, 1, 2, 3, 4, 5, 6, 7, 8, 9, 10, 11, 12, 13] (hO 14)) hL) hL)) (hS (.region [0, 1, 2, 3, 4, 5, 6, 7, 8, 9, 10, 11, 12, 13] (hO 14)) hL))))
theorem F84_calls {a0 : Int} {a1 : Sl} {a2 : Int} {K : Int → World → Prop} {w : World} (h : F84 a0 a1 a2 K w) : callT Tryz.prog 84 #[(.int .i64 a0), (.slice a1.a a1.len a1.cap), (.int .i64 a2)] (.one (.one (.int .i64))) K w := tied tabOk Tryz.func84 h84 [(.int .i64 a0), (.slice a1.a a1.len a1.cap), (.int .i64 a2)] (by kernel_rfl) h
noncomputable def F85 (a0 : Int) (K : Value → World → Prop) : World → Prop :=
 sif (a0 == (1 : Int)) (
 K (.iface 163 (.agg #[]))) (
 sif (a0 == (2 : Int)) (
 K (.iface 165 (.agg #[(.int .i64 (0 : Int))]))) (
 sif (a0 == (3 : Int)) (
 K (.iface 165 (.agg #[(.int .i64 (1 : Int))]))) (
 sif (a0 == (4 : Int)) (
 K (.iface 166 (.agg #[]))) (
 K .nilIface))))
noncomputable def h85 : Hint := (hS (hR 1) (hS (hS (hR 1) (.block (hS (hR 2) (hC (hS (hR 3) hL) (hS (hR 2) (hC (hS (hR 3) hL) (hS (hR 2) (hC (hS (hR 3) hL) (hS (hR 2) (hC (hS (hR 3) hL) hL)))))))))) (hS (hR 1) hL)))
theorem F85_calls {a0 : Int} {K : Value → World → Prop} {w : World} (h : F85 a0 K w) : callT Tryz.prog 85 #[(.int .i64 a0)] (.one (.one .any)) K w := tied tabOk Tryz.func85 h85 [(.int .i64 a0)] (by kernel_rfl) h
noncomputable def F86 (a0 : (Int × Int × Int × Bool × Bool × Unit)) (a1 : (Int × Int × Int × Bool × Bool × Unit)) (K : (Int × Int × Int × Bool × Bool × Unit) → World → Prop) : World → Prop :=
 newO (.cells #[(.int .i64 a0.1), (.int .i64 a0.2.1), (.int .i64 a0.2.2.1), (.bool a0.2.2.2.1), (.bool a0.2.2.2.2.1)] 110) fun b1 =>
 newO (.cells #[(.int .i64 a1.1), (.int .i64 a1.2.1), (.int .i64 a1.2.2.1), (.bool a1.2.2.2.1), (.bool a1.2.2.2.2.1)] 110) fun b2 =>
 newO (.cells #[(.int .i64 (0 : Int)), (.int .i64 (0 : Int)), (.int .i64 (0 : Int)), (.bool false), (.bool false)] 110) fun b3 =>
 ld (.int .i64) (at0 b1) fun (x4 : Int) =>
 sif (x4 == (0 : Int)) (
 lds c110 (at0 b2) fun (x5 : (Int × Int × Int × Bool × Bool × Unit)) =>
 aggSt (at0 b3) (.agg (Cells.vals c110 x5).toArray) 5 <|
 lds c110 (at0 b3) fun (x6 : (Int × Int × Int × Bool × Bool × Unit)) =>
 K x6) (
 ld (.int .i64) (at0 b2) fun (x7 : Int) =>
 sif (x7 == (0 : Int)) (
 lds c110 (at0 b1) fun (x8 : (Int × Int × Int × Bool × Bool × Unit)) =>
 aggSt (at0 b3) (.agg (Cells.vals c110 x8).toArray) 5 <|
 lds c110 (at0 b3) fun (x9 : (Int × Int × Int × Bool × Bool × Unit)) =>
 K x9) (
 ld (.int .i64) (at0 b1) fun (x10 : Int) =>
 ld (.int .i64) (at0 b2) fun (x11 : Int) =>
 ld (.int .i64) (⟨b1, 1, none⟩ : Addr) fun (x12 : Int) =>
 ld (.int .i64) (⟨b2, 1, none⟩ : Addr) fun (x13 : Int) =>
 ld (.int .i64) (⟨b1, 2, none⟩ : Addr) fun (x14 : Int) =>
 ld (.int .i64) (⟨b2, 2, none⟩ : Addr) fun (x15 : Int) =>
 ld (.bool) (⟨b1, 3, none⟩ : Addr) fun (x16 : Bool) =>
 ld (.bool) (⟨b2, 4, none⟩ : Addr) fun (x17 : Bool) =>
 newO (.cells #[(.int .i64 (0 : Int)), (.int .i64 (0 : Int)), (.int .i64 (0 : Int)), (.bool false), (.bool false)] 110) fun b18 =>
 aggSt (at0 b18) (.agg #[(.int .i64 (IntKind.wrap .i64 (x10 + x11))), (.int .i64 (IntKind.wrap .i64 (x12 + x13))), (.int .i64 (IntKind.wrap .i64 (x14 + x15))), (.bool x16), (.bool x17)]) 5 <|
 join (S := Unit) (fun J19 =>
 join (S := Bool × Unit) (fun J21 =>
 ld (.bool) (⟨b1, 4, none⟩ : Addr) fun (x23 : Bool) =>
 sif x23 (
 ld (.bool) (⟨b2, 3, none⟩ : Addr) fun (x24 : Bool) =>
 J21 (x24, ())) (
 J21 (false, ()))) fun (s22 : Bool × Unit) =>
 sif s22.1 (
 ld (.int .i64) (⟨b18, 2, none⟩ : Addr) fun (x25 : Int) =>
 stC (⟨b18, 2, none⟩ : Addr) (.int .i64 (IntKind.wrap .i64 (x25 - (1 : Int)))) <|
 J19 ()) (
 J19 ())) fun (s20 : Unit) =>
 lds c110 (at0 b18) fun (x26 : (Int × Int × Int × Bool × Bool × Unit)) =>
 aggSt (at0 b3) (.agg (Cells.vals c110 x26).toArray) 5 <|
 lds c110 (at0 b3) fun (x27 : (Int × Int × Int × Bool × Bool × Unit)) =>
 K x27))
noncomputable def h86 : Hint := (hS (hR 3) (hS (hS (hR 3) (hC (hS (hR 2) hL) hL)) (hS (hS (hR 3) (hC (hS (hR 2) hL) hL)) (hS (hR 22) (hJ (17575006175232, []) (hJ (1082331758592, [(39, tB)]) (.region [] (.ops 3 (.split 36 (hO 3) (.skips 2 (hO 1))))) (hC (hR 5) hL)) (hS (hR 2) hL))))))
theorem F86_calls {a0 : (Int × Int × Int × Bool × Bool × Unit)} {a1 : (Int × Int × Int × Bool × Bool × Unit)} {K : (Int × Int × Int × Bool × Bool × Unit) → World → Prop} {w : World} (h : F86 a0 a1 K w) : callT Tryz.prog 86 #[(.agg (Cells.vals c110 a0).toArray), (.agg (Cells.vals c110 a1).toArray)] (.one (.agg c110)) K w := tied tabOk Tryz.func86 h86 [(.agg (Cells.vals c110 a0).toArray), (.agg (Cells.vals c110 a1).toArray)] (by kernel_rfl) h
noncomputable def F87 (a0 : Int) (a1 : Int) (K : (Int × Int × Int × Bool × Bool × Unit) → World → Prop) : World → Prop :=
 newO (.cells #[(.int .i64 (0 : Int)), (.int .i64 (0 : Int)), (.int .i64 (0 : Int)), (.bool false), (.bool false)] 110) fun b1 =>
 newO (.cells #[(.int .i64 (0 : Int)), (.int .i64 (0 : Int)), (.int .i64 (0 : Int)), (.bool false), (.bool false)] 110) fun b2 =>
 aggSt (at0 b2) (.agg #[(.int .i64 (1 : Int)), (.int .i64 a1), (.int .i64 (0 : Int)), (.bool (a0 == (10 : Int))), (.bool (a0 == (13 : Int)))]) 5 <|
 join (S := Unit) (fun J3 =>
 join (S := Bool × Unit) (fun J5 =>
 ld (.bool) (⟨b2, 3, none⟩ : Addr) fun (x7 : Bool) =>
 sif x7 (
 J5 (true, ())) (
 ld (.bool) (⟨b2, 4, none⟩ : Addr) fun (x8 : Bool) =>
 J5 (x8, ()))) fun (s6 : Bool × Unit) =>
 sif s6.1 (
 stC (⟨b2, 2, none⟩ : Addr) (.int .i64 (1 : Int)) <|
 J3 ()) (
 J3 ())) fun (s4 : Unit) =>
 lds c110 (at0 b2) fun (x9 : (Int × Int × Int × Bool × Bool × Unit)) =>
 aggSt (at0 b1) (.agg (Cells.vals c110 x9).toArray) 5 <|
 lds c110 (at0 b1) fun (x10 : (Int × Int × Int × Bool × Bool × Unit)) =>
 K x10
noncomputable def h87 : Hint := (hS (hR 1) (hS (hR 8) (hJ (520192, []) (hJ (258048, [(17, tB)]) (.region [] (.ops 3 (.split 14 (.skips 2 (hO 1)) (hO 3)))) (hC (hR 2) hL)) (hS (hR 2) hL))))
theorem F87_calls {a0 : Int} {a1 : Int} {K : (Int × Int × Int × Bool × Bool × Unit) → World → Prop} {w : World} (h : F87 a0 a1 K w) : callT Tryz.prog 87 #[(.int .i64 a0), (.int .i64 a1)] (.one (.agg c110)) K w := tied tabOk Tryz.func87 h87 [(.int .i64 a0), (.int .i64 a1)] (by kernel_rfl) h
noncomputable def F88 (a0 : Sl) (K : Option Addr → World → Prop) : World → Prop :=
 sif (((a0.len : Nat) : Int) == (0 : Int)) (
 K none) (
 chk ((2 : Int) ≠ 0) <|
 drew <|
 slc a0.a 0 (IntKind.wrap .i64 (Int.tdiv ((a0.len : Nat) : Int) (2 : Int))) ((a0.cap : Nat) : Int) a0.cap 7 fun x1 =>
 ix a0.a a0.len (IntKind.wrap .i64 (Int.tdiv ((a0.len : Nat) : Int) (2 : Int))) fun p2 =>
 lds c112 (p2.add (scaled (Int.toNat (IntKind.wrap .i64 (Int.tdiv ((a0.len : Nat) : Int) (2 : Int)))) 7)) fun (x3 : (Sl × Int × Int × Int × Int × Bool × Bool × Unit)) =>
 slc a0.a (IntKind.wrap .i64 ((IntKind.wrap .i64 (Int.tdiv ((a0.len : Nat) : Int) (2 : Int))) + (1 : Int))) ((a0.len : Nat) : Int) ((a0.cap : Nat) : Int) a0.cap 7 fun x4 =>
 callT Tryz.prog 88 #[(.slice x1.a x1.len x1.cap)] (.one (.one .ptr)) fun (x5 : Option Addr) =>
 keep (fun w => cellsAt w (p2.add (scaled (Int.toNat (IntKind.wrap .i64 (Int.tdiv ((a0.len : Nat) : Int) (2 : Int)))) 7)) 0 (Cells.vals c112 x3)) <|
 callT Tryz.prog 88 #[(.slice x4.a x4.len x4.cap)] (.one (.one .ptr)) fun (x6 : Option Addr) =>
 keep (fun w => cellsAt w (p2.add (scaled (Int.toNat (IntKind.wrap .i64 (Int.tdiv ((a0.len : Nat) : Int) (2 : Int)))) 7)) 0 (Cells.vals c112 x3)) <|
 callT Tryz.prog 120 #[(.pointer x5), (.agg (Cells.vals c112 x3).toArray), (.pointer x6)] (.one (.one .ptr)) fun (x7 : Option Addr) =>
 K x7)
noncomputable def h88 : Hint := (hS (hR 1) (hS (hS (hR 3) (hC (hS (hR 1) hL) hL)) (hS (hR 4) (hS (.region [0, 1, 2, 4, 5, 6, 7, 8, 9, 10, 11, 3, 12, 13, 14] (hO 15)) hL))))
theorem F88_calls {a0 : Sl} {K : Option Addr → World → Prop} {w : World} (h : F88 a0 K w) : callT Tryz.prog 88 #[(.slice a0.a a0.len a0.cap)] (.one (.one .ptr)) K w := tied tabOk Tryz.func88 h88 [(.slice a0.a a0.len a0.cap)] (by kernel_rfl) h
noncomputable def F89 (a0 : Option Addr) (a1 : Int) (K : (Int × Int × Int × Bool × Bool × Unit) → World → Prop) : World → Prop :=
 newO (.cells #[(.int .i64 (0 : Int)), (.int .i64 (0 : Int)), (.int .i64 (0 : Int)), (.bool false), (.bool false)] 110) fun b1 =>
 callT Tryz.prog 73 #[(.pointer a0), (.int .i64 a1)] (.tup [(.one (.int .i64)), (.one (.int .i64))]) fun (x2 : (Int × Int × Unit)) =>
 nn a0 fun p3 =>
 lds c105 (p3.add 2) fun (x4 : (Option Addr × Unit)) =>
 callT Tryz.prog 91 #[(.agg (Cells.vals c105 x4).toArray), (.int .i64 x2.1)] (.one (.agg c110)) fun (x5 : (Int × Int × Int × Bool × Bool × Unit)) =>
 newO (.cells #[(.int .i64 (0 : Int)), (.int .i64 (0 : Int)), (.int .i64 (0 : Int)), (.bool false), (.bool false)] 110) fun b6 =>
 aggSt (at0 b6) (.agg (Cells.vals c110 x5).toArray) 5 <|
 join (S := Unit) (fun J7 =>
 nn a0 fun p9 =>
 lds c105 (p9.add 2) fun (x10 : (Option Addr × Unit)) =>
 callT Tryz.prog 92 #[(.agg (Cells.vals c105 x10).toArray), (.int .i64 x2.1)] (.tup [(.agg c112), (.one .bool)]) fun (x11 : ((Sl × Int × Int × Int × Int × Bool × Bool × Unit) × Bool × Unit)) =>
 newO (.cells #[(.slice none 0 0), (.int .i64 (0 : Int)), (.int .i64 (0 : Int)), (.int .i64 (0 : Int)), (.int .i64 (0 : Int)), (.bool false), (.bool false)] 112) fun b12 =>
 aggSt (at0 b12) (.agg (Cells.vals c112 x11.1).toArray) 7 <|
 sif x11.2.1 (
 join (S := Addr × Unit) (fun J13 =>
 drew <|
 lds c112 (at0 b12) fun (x15 : (Sl × Int × Int × Int × Int × Bool × Bool × Unit)) =>
 nn a0 fun p16 =>
 ld (.int .i64) p16 fun (x17 : Int) =>
 both (
 newO (.cells #[(.slice none 0 0), (.int .i64 (0 : Int)), (.int .i64 (0 : Int)), (.int .i64 (0 : Int)), (.int .i64 (0 : Int)), (.bool false), (.bool false)] 112) fun b18 =>
 keep (fun w => w.cell? p16 = some (Cell.val (.int .i64) x17)) <|
 keep (fun w => cellsAt w (at0 b12) 0 (Cells.vals c112 x15)) <|
 both (
 newO (.cells #[(.slice none 0 0), (.int .i64 (0 : Int)), (.int .i64 (0 : Int)), (.int .i64 (0 : Int)), (.int .i64 (0 : Int)), (.bool false), (.bool false)] 112) fun b19 =>
 keep (fun w => w.cell? p16 = some (Cell.val (.int .i64) x17)) <|
 keep (fun w => cellsAt w (at0 b12) 0 (Cells.vals c112 x15)) <|
 callT Tryz.prog 112 #[(.agg (Cells.vals c112 x15).toArray), (.int .i64 x17), (.int .i64 x2.2.1)] (.tup [(.agg c112), (.agg c112)]) fun (x20 : ((Sl × Int × Int × Int × Int × Bool × Bool × Unit) × (Sl × Int × Int × Int × Int × Bool × Bool × Unit) × Unit)) =>
 aggSt (at0 b18) (.agg (Cells.vals c112 x20.1).toArray) 7 <|
 aggSt (at0 b19) (.agg (Cells.vals c112 x20.2.1).toArray) 7 <|
 J13 ((at0 b18), ())) <|
 callT Tryz.prog 112 #[(.agg (Cells.vals c112 x15).toArray), (.int .i64 x17), (.int .i64 x2.2.1)] (.tup [(.agg c112), (.agg c112)]) fun (x21 : ((Sl × Int × Int × Int × Int × Bool × Bool × Unit) × (Sl × Int × Int × Int × Int × Bool × Bool × Unit) × Unit)) =>
 both (
 newO (.cells #[(.slice none 0 0), (.int .i64 (0 : Int)), (.int .i64 (0 : Int)), (.int .i64 (0 : Int)), (.int .i64 (0 : Int)), (.bool false), (.bool false)] 112) fun b22 =>
 keep (fun w => w.cell? p16 = some (Cell.val (.int .i64) x17)) <|
 keep (fun w => cellsAt w (at0 b12) 0 (Cells.vals c112 x15)) <|
 aggSt (at0 b18) (.agg (Cells.vals c112 x21.1).toArray) 7 <|
 aggSt (at0 b22) (.agg (Cells.vals c112 x21.2.1).toArray) 7 <|
 J13 ((at0 b18), ())) <|
 nothing) <|
 both (
 newO (.cells #[(.slice none 0 0), (.int .i64 (0 : Int)), (.int .i64 (0 : Int)), (.int .i64 (0 : Int)), (.int .i64 (0 : Int)), (.bool false), (.bool false)] 112) fun b23 =>
 keep (fun w => w.cell? p16 = some (Cell.val (.int .i64) x17)) <|
 keep (fun w => cellsAt w (at0 b12) 0 (Cells.vals c112 x15)) <|
 both (
 newO (.cells #[(.slice none 0 0), (.int .i64 (0 : Int)), (.int .i64 (0 : Int)), (.int .i64 (0 : Int)), (.int .i64 (0 : Int)), (.bool false), (.bool false)] 112) fun b24 =>
 keep (fun w => w.cell? p16 = some (Cell.val (.int .i64) x17)) <|
 keep (fun w => cellsAt w (at0 b12) 0 (Cells.vals c112 x15)) <|
 callT Tryz.prog 112 #[(.agg (Cells.vals c112 x15).toArray), (.int .i64 x17), (.int .i64 x2.2.1)] (.tup [(.agg c112), (.agg c112)]) fun (x25 : ((Sl × Int × Int × Int × Int × Bool × Bool × Unit) × (Sl × Int × Int × Int × Int × Bool × Bool × Unit) × Unit)) =>
 aggSt (at0 b24) (.agg (Cells.vals c112 x25.1).toArray) 7 <|
 aggSt (at0 b23) (.agg (Cells.vals c112 x25.2.1).toArray) 7 <|
 J13 ((at0 b24), ())) <|
 callT Tryz.prog 112 #[(.agg (Cells.vals c112 x15).toArray), (.int .i64 x17), (.int .i64 x2.2.1)] (.tup [(.agg c112), (.agg c112)]) fun (x26 : ((Sl × Int × Int × Int × Int × Bool × Bool × Unit) × (Sl × Int × Int × Int × Int × Bool × Bool × Unit) × Unit)) =>
 both (
 newO (.cells #[(.slice none 0 0), (.int .i64 (0 : Int)), (.int .i64 (0 : Int)), (.int .i64 (0 : Int)), (.int .i64 (0 : Int)), (.bool false), (.bool false)] 112) fun b27 =>
 keep (fun w => w.cell? p16 = some (Cell.val (.int .i64) x17)) <|
 keep (fun w => cellsAt w (at0 b12) 0 (Cells.vals c112 x15)) <|
 aggSt (at0 b27) (.agg (Cells.vals c112 x26.1).toArray) 7 <|
 aggSt (at0 b23) (.agg (Cells.vals c112 x26.2.1).toArray) 7 <|
 J13 ((at0 b27), ())) <|
 nothing) <|
 callT Tryz.prog 112 #[(.agg (Cells.vals c112 x15).toArray), (.int .i64 x17), (.int .i64 x2.2.1)] (.tup [(.agg c112), (.agg c112)]) fun (x28 : ((Sl × Int × Int × Int × Int × Bool × Bool × Unit) × (Sl × Int × Int × Int × Int × Bool × Bool × Unit) × Unit)) =>
 both (
 newO (.cells #[(.slice none 0 0), (.int .i64 (0 : Int)), (.int .i64 (0 : Int)), (.int .i64 (0 : Int)), (.int .i64 (0 : Int)), (.bool false), (.bool false)] 112) fun b29 =>
 keep (fun w => w.cell? p16 = some (Cell.val (.int .i64) x17)) <|
 keep (fun w => cellsAt w (at0 b12) 0 (Cells.vals c112 x15)) <|
 both (
 newO (.cells #[(.slice none 0 0), (.int .i64 (0 : Int)), (.int .i64 (0 : Int)), (.int .i64 (0 : Int)), (.int .i64 (0 : Int)), (.bool false), (.bool false)] 112) fun b30 =>
 keep (fun w => w.cell? p16 = some (Cell.val (.int .i64) x17)) <|
 keep (fun w => cellsAt w (at0 b12) 0 (Cells.vals c112 x15)) <|
 aggSt (at0 b29) (.agg (Cells.vals c112 x28.1).toArray) 7 <|
 aggSt (at0 b30) (.agg (Cells.vals c112 x28.2.1).toArray) 7 <|
 J13 ((at0 b29), ())) <|
 nothing) <|
 both (
 newO (.cells #[(.slice none 0 0), (.int .i64 (0 : Int)), (.int .i64 (0 : Int)), (.int .i64 (0 : Int)), (.int .i64 (0 : Int)), (.bool false), (.bool false)] 112) fun b31 =>
 keep (fun w => w.cell? p16 = some (Cell.val (.int .i64) x17)) <|
 keep (fun w => cellsAt w (at0 b12) 0 (Cells.vals c112 x15)) <|
 both (
 newO (.cells #[(.slice none 0 0), (.int .i64 (0 : Int)), (.int .i64 (0 : Int)), (.int .i64 (0 : Int)), (.int .i64 (0 : Int)), (.bool false), (.bool false)] 112) fun b32 =>
 keep (fun w => w.cell? p16 = some (Cell.val (.int .i64) x17)) <|
 keep (fun w => cellsAt w (at0 b12) 0 (Cells.vals c112 x15)) <|
 aggSt (at0 b32) (.agg (Cells.vals c112 x28.1).toArray) 7 <|
 aggSt (at0 b31) (.agg (Cells.vals c112 x28.2.1).toArray) 7 <|
 J13 ((at0 b32), ())) <|
 nothing) <|
 nothing) fun (s14 : Addr × Unit) =>
 lds c110 (at0 b6) fun (x33 : (Int × Int × Int × Bool × Bool × Unit)) =>
 lds c110 (s14.1.add 2) fun (x34 : (Int × Int × Int × Bool × Bool × Unit)) =>
 callT Tryz.prog 86 #[(.agg (Cells.vals c110 x33).toArray), (.agg (Cells.vals c110 x34).toArray)] (.one (.agg c110)) fun (x35 : (Int × Int × Int × Bool × Bool × Unit)) =>
 aggSt (at0 b6) (.agg (Cells.vals c110 x35).toArray) 5 <|
 J7 ()) (
 J7 ())) fun (s8 : Unit) =>
 lds c110 (at0 b6) fun (x36 : (Int × Int × Int × Bool × Bool × Unit)) =>
 aggSt (at0 b1) (.agg (Cells.vals c110 x36).toArray) 5 <|
 lds c110 (at0 b1) fun (x37 : (Int × Int × Int × Bool × Bool × Unit)) =>
 K x37
noncomputable def h89 : Hint := (hS (hR 1) (hS (hR 8) (hS (hR 8) (hJ (281474959937280, []) (hS (hR 12) (hS (hR 1) (hC (hJ (17575006178304, [(10, (.one .addr))]) (.region [0, 1, 2, 3, 4, 5, 6, 7, 8, 9, 12, 13] (.float [10, 11] (.ops 6 (.alt none (.alt none (.plain (hO 6)) (.ops 4 (.alt none (.plain (hO 2)) .stop))) (.alt none (.alt none (.plain (hO 6)) (.ops 4 (.alt none (.plain (hO 2)) .stop))) (.ops 4 (.alt none (.alt none (.plain (hO 2)) .stop) (.alt none (.alt none (.plain (hO 2)) .stop) .stop)))))))) (hR 5)) hL))) (hS (hR 2) hL)))))
theorem F89_calls {a0 : Option Addr} {a1 : Int} {K : (Int × Int × Int × Bool × Bool × Unit) → World → Prop} {w : World} (h : F89 a0 a1 K w) : callT Tryz.prog 89 #[(.pointer a0), (.int .i64 a1)] (.one (.agg c110)) K w := tied tabOk Tryz.func89 h89 [(.pointer a0), (.int .i64 a1)] (by kernel_rfl) h
noncomputable def F90 (a0 : (Option Addr × Unit)) (a1 : Int) (a2 : Int) (K : Int → World → Prop) : World → Prop :=
 newO (.cells #[(.pointer a0.1)] 105) fun b1 =>
 sif (decide (a2 ≤ (0 : Int))) (
 K (0 : Int)) (
 newO (.cells #[(.int .i64 (0 : Int)), (.int .i64 (0 : Int)), (.int .i64 (0 : Int)), (.bool false), (.bool false)] 110) fun b2 =>
 join (S := Int × Unit) (fun J3 =>
 ld (.ptr) (at0 b1) fun (x5 : Option Addr) =>
 sloop (S := Int × Option Addr × Unit) (fun (s6 : Int × Option Addr × Unit) again7 =>
 sif (!(Option.isNone s6.2.1)) (
 lds c110 (at0 b2) fun (x8 : (Int × Int × Int × Bool × Bool × Unit)) =>
 newO (.cells #[(.int .i64 (0 : Int)), (.int .i64 (0 : Int)), (.int .i64 (0 : Int)), (.bool false), (.bool false)] 110) fun b9 =>
 aggSt (at0 b9) (.agg (Cells.vals c110 x8).toArray) 5 <|
 join (S := Unit) (fun J10 =>
 nn s6.2.1 fun p12 =>
 ld (.ptr) p12 fun (x13 : Option Addr) =>
 sif (!(Option.isNone x13)) (
 drew <|
 lds c110 (at0 b2) fun (x14 : (Int × Int × Int × Bool × Bool × Unit)) =>
 nn s6.2.1 fun p15 =>
 ld (.ptr) p15 fun (x16 : Option Addr) =>
 nn x16 fun p17 =>
 lds c110 (p17.add 11) fun (x18 : (Int × Int × Int × Bool × Bool × Unit)) =>
 callX Tryz.prog (invoke (.fn (.method "Add") #[]) (#[(.iface 110 (.agg (Cells.vals c110 x14).toArray))] ++ #[(.agg (Cells.vals c110 x18).toArray)])) (.one (.agg c110)) fun (x19 : (Int × Int × Int × Bool × Bool × Unit)) =>
 aggSt (at0 b9) (.agg (Cells.vals c110 x19).toArray) 5 <|
 J10 ()) (
 J10 ())) fun (s11 : Unit) =>
 lds c110 (at0 b9) fun (x20 : (Int × Int × Int × Bool × Bool × Unit)) =>
 callX Tryz.prog (invoke (.fn (.method "Key") #[]) (#[(.iface 110 (.agg (Cells.vals c110 x20).toArray))] ++ #[(.int .i64 a1)])) (.one (.one (.int .i64))) fun (x21 : Int) =>
 sif (decide (x21 ≥ a2)) (
 nn s6.2.1 fun p22 =>
 ld (.ptr) p22 fun (x23 : Option Addr) =>
 again7 (s6.1, x23, ())) (
 nn s6.2.1 fun p24 =>
 ld (.ptr) p24 fun (x25 : Option Addr) =>
 callT Tryz.prog 102 #[(.pointer x25)] (.one (.one (.int .i64))) fun (x26 : Int) =>
 drew <|
 lds c110 (at0 b9) fun (x27 : (Int × Int × Int × Bool × Bool × Unit)) =>
 nn s6.2.1 fun p28 =>
 lds c112 (p28.add 2) fun (x29 : (Sl × Int × Int × Int × Int × Bool × Bool × Unit)) =>
 callX Tryz.prog (invoke (.fn (.method "Measure") #[]) (#[(.iface 112 (.agg (Cells.vals c112 x29).toArray))] ++ #[])) (.one (.agg c110)) fun (x30 : (Int × Int × Int × Bool × Bool × Unit)) =>
 keep (fun w => cellsAt w (at0 b9) 0 (Cells.vals c110 x27)) <|
 callX Tryz.prog (invoke (.fn (.method "Add") #[]) (#[(.iface 110 (.agg (Cells.vals c110 x27).toArray))] ++ #[(.agg (Cells.vals c110 x30).toArray)])) (.one (.agg c110)) fun (x31 : (Int × Int × Int × Bool × Bool × Unit)) =>
 aggSt (at0 b2) (.agg (Cells.vals c110 x31).toArray) 5 <|
 lds c110 (at0 b2) fun (x32 : (Int × Int × Int × Bool × Bool × Unit)) =>
 callX Tryz.prog (invoke (.fn (.method "Key") #[]) (#[(.iface 110 (.agg (Cells.vals c110 x32).toArray))] ++ #[(.int .i64 a1)])) (.one (.one (.int .i64))) fun (x33 : Int) =>
 sif (decide (x33 ≥ a2)) (
 K (IntKind.wrap .i64 (s6.1 + (IntKind.wrap .i64 (x26 + (1 : Int)))))) (
 nn s6.2.1 fun p34 =>
 ld (.ptr) (p34.add 1) fun (x35 : Option Addr) =>
 again7 ((IntKind.wrap .i64 (s6.1 + (IntKind.wrap .i64 (x26 + (1 : Int))))), x35, ())))) (
 J3 (s6.1, ()))) ((0 : Int), x5, ())) fun (s4 : Int × Unit) =>
 K (IntKind.wrap .i64 (s4.1 + (1 : Int))))
noncomputable def h90 : Hint := (hS (hR 2) (hS (hS (hR 2) (hC (hS (hR 1) hL) hL)) (hS (hR 1) (hS (hR 1) (hJ (2361183241434822600512, [(8, tI)]) (hS (hR 3) (.block (.loop 2361183241434822575936 [(8, tI), (9, tP)] (hS (hS (hR 2) (hC hL hL)) (.block (hS (hR 3) (hJ (8589672448, []) (hS (hR 5) (hC (.region [0, 1, 2, 3, 4, 5, 6, 7, 8, 9, 10] (hO 11)) hL)) (hS (hS (hR 6) (hC (hS (hR 5) hL) hL)) (hS (hR 9) (hS (.region [0, 1, 2, 3, 4, 5, 6, 7, 8, 9] (hO 10)) (hS (hS (hR 6) (hC (hS (hR 2) hL) hL)) (hR 5)))))))))))) (hS (hR 3) hL))))))
theorem F90_calls {a0 : (Option Addr × Unit)} {a1 : Int} {a2 : Int} {K : Int → World → Prop} {w : World} (h : F90 a0 a1 a2 K w) : callT Tryz.prog 90 #[(.agg (Cells.vals c105 a0).toArray), (.int .i64 a1), (.int .i64 a2)] (.one (.one (.int .i64))) K w := tied tabOk Tryz.func90 h90 [(.agg (Cells.vals c105 a0).toArray), (.int .i64 a1), (.int .i64 a2)] (by kernel_rfl) h
noncomputable def F91 (a0 : (Option Addr × Unit)) (a1 : Int) (K : (Int × Int × Int × Bool × Bool × Unit) → World → Prop) : World → Prop :=
 newO (.cells #[(.pointer a0.1)] 105) fun b1 =>
 newO (.cells #[(.int .i64 (0 : Int)), (.int .i64 (0 : Int)), (.int .i64 (0 : Int)), (.bool false), (.bool false)] 110) fun b2 =>
 newO (.cells #[(.int .i64 (0 : Int)), (.int .i64 (0 : Int)), (.int .i64 (0 : Int)), (.bool false), (.bool false)] 110) fun b3 =>
 lds c105 (at0 b1) fun (x4 : (Option Addr × Unit)) =>
 callT Tryz.prog 115 #[(.agg (Cells.vals c105 x4).toArray)] (.one (.one (.int .i64))) fun (x5 : Int) =>
 join (S := Unit) (fun J6 =>
 ld (.ptr) (at0 b1) fun (x8 : Option Addr) =>
 sloop (S := Int × Option Addr × Unit) (fun (s9 : Int × Option Addr × Unit) again10 =>
 join (S := Bool × Unit) (fun J11 =>
 sif (!(Option.isNone s9.2.1)) (
 J11 ((decide (s9.1 > (0 : Int))), ())) (
 J11 (false, ()))) fun (s12 : Bool × Unit) =>
 sif s12.1 (
 nn s9.2.1 fun p13 =>
 ld (.ptr) p13 fun (x14 : Option Addr) =>
 callT Tryz.prog 102 #[(.pointer x14)] (.one (.one (.int .i64))) fun (x15 : Int) =>
 sif (decide (s9.1 ≤ x15)) (
 nn s9.2.1 fun p16 =>
 ld (.ptr) p16 fun (x17 : Option Addr) =>
 again10 (s9.1, x17, ())) (
 join (S := Unit) (fun J18 =>
 nn s9.2.1 fun p20 =>
 ld (.ptr) p20 fun (x21 : Option Addr) =>
 sif (!(Option.isNone x21)) (
 drew <|
 lds c110 (at0 b3) fun (x22 : (Int × Int × Int × Bool × Bool × Unit)) =>
 nn s9.2.1 fun p23 =>
 ld (.ptr) p23 fun (x24 : Option Addr) =>
 nn x24 fun p25 =>
 lds c110 (p25.add 11) fun (x26 : (Int × Int × Int × Bool × Bool × Unit)) =>
 callX Tryz.prog (invoke (.fn (.method "Add") #[]) (#[(.iface 110 (.agg (Cells.vals c110 x22).toArray))] ++ #[(.agg (Cells.vals c110 x26).toArray)])) (.one (.agg c110)) fun (x27 : (Int × Int × Int × Bool × Bool × Unit)) =>
 aggSt (at0 b3) (.agg (Cells.vals c110 x27).toArray) 5 <|
 J18 ()) (
 J18 ())) fun (s19 : Unit) =>
 drew <|
 lds c110 (at0 b3) fun (x28 : (Int × Int × Int × Bool × Bool × Unit)) =>
 nn s9.2.1 fun p29 =>
 lds c112 (p29.add 2) fun (x30 : (Sl × Int × Int × Int × Int × Bool × Bool × Unit)) =>
 callX Tryz.prog (invoke (.fn (.method "Measure") #[]) (#[(.iface 112 (.agg (Cells.vals c112 x30).toArray))] ++ #[])) (.one (.agg c110)) fun (x31 : (Int × Int × Int × Bool × Bool × Unit)) =>
 keep (fun w => cellsAt w (at0 b3) 0 (Cells.vals c110 x28)) <|
 callX Tryz.prog (invoke (.fn (.method "Add") #[]) (#[(.iface 110 (.agg (Cells.vals c110 x28).toArray))] ++ #[(.agg (Cells.vals c110 x31).toArray)])) (.one (.agg c110)) fun (x32 : (Int × Int × Int × Bool × Bool × Unit)) =>
 aggSt (at0 b3) (.agg (Cells.vals c110 x32).toArray) 5 <|
 nn s9.2.1 fun p33 =>
 ld (.ptr) (p33.add 1) fun (x34 : Option Addr) =>
 again10 ((IntKind.wrap .i64 ((IntKind.wrap .i64 (s9.1 - x15)) - (1 : Int))), x34, ()))) (
 J6 ())) ((if x5 < a1 then x5 else a1), x8, ())) fun (s7 : Unit) =>
 lds c110 (at0 b3) fun (x35 : (Int × Int × Int × Bool × Bool × Unit)) =>
 aggSt (at0 b2) (.agg (Cells.vals c110 x35).toArray) 5 <|
 lds c110 (at0 b2) fun (x36 : (Int × Int × Int × Bool × Bool × Unit)) =>
 K x36
noncomputable def h91 : Hint := (hS (hR 2) (hS (hR 1) (hS (hR 5) (hJ (18446744073709547714, []) (hS (hR 3) (.block (.loop 18446744073709535426 [(1, tI), (6, tP)] (hS (hJ (1032192, [(19, tB)]) (.region [] (.ops 3 (.split 16 (hO 3) (.skips 2 (hO 1))))) (hC hL hL)) (.block (hS (hR 6) (hS (hS (hR 3) (hC (hS (hR 5) hL) hL)) (hJ (140733193388032, []) (hS (hR 5) (hC (.region [0, 1, 2, 3, 4, 5, 6, 7, 8, 9, 10] (hO 11)) hL)) (hS (.region [0, 1, 2, 3, 4, 5, 6, 7, 8, 9] (hO 10)) (hR 10)))))))))) (hS (hR 2) hL)))))
theorem F91_calls {a0 : (Option Addr × Unit)} {a1 : Int} {K : (Int × Int × Int × Bool × Bool × Unit) → World → Prop} {w : World} (h : F91 a0 a1 K w) : callT Tryz.prog 91 #[(.agg (Cells.vals c105 a0).toArray), (.int .i64 a1)] (.one (.agg c110)) K w := tied tabOk Tryz.func91 h91 [(.agg (Cells.vals c105 a0).toArray), (.int .i64 a1)] (by kernel_rfl) h
noncomputable def F92 (a0 : (Option Addr × Unit)) (a1 : Int) (K : ((Sl × Int × Int × Int × Int × Bool × Bool × Unit) × Bool × Unit) → World → Prop) : World → Prop :=
 newO (.cells #[(.pointer a0.1)] 105) fun b1 =>
 newO (.cells #[(.slice none 0 0), (.int .i64 (0 : Int)), (.int .i64 (0 : Int)), (.int .i64 (0 : Int)), (.int .i64 (0 : Int)), (.bool false), (.bool false)] 112) fun b2 =>
 join (S := Unit) (fun J3 =>
 ld (.ptr) (at0 b1) fun (x5 : Option Addr) =>
 sloop (S := Int × Option Addr × Unit) (fun (s6 : Int × Option Addr × Unit) again7 =>
 join (S := Bool × Unit) (fun J8 =>
 sif (!(Option.isNone s6.2.1)) (
 J8 ((decide (s6.1 ≥ (0 : Int))), ())) (
 J8 (false, ()))) fun (s9 : Bool × Unit) =>
 sif s9.1 (
 nn s6.2.1 fun p10 =>
 ld (.ptr) p10 fun (x11 : Option Addr) =>
 callT Tryz.prog 102 #[(.pointer x11)] (.one (.one (.int .i64))) fun (x12 : Int) =>
 sif (s6.1 == x12) (
 nn s6.2.1 fun p13 =>
 lds c112 (p13.add 2) fun (x14 : (Sl × Int × Int × Int × Int × Bool × Bool × Unit)) =>
 aggSt (at0 b2) (.agg (Cells.vals c112 x14).toArray) 7 <|
 lds c112 (at0 b2) fun (x15 : (Sl × Int × Int × Int × Int × Bool × Bool × Unit)) =>
 K (x15, true, ())) (
 sif (decide (s6.1 < x12)) (
 nn s6.2.1 fun p16 =>
 ld (.ptr) p16 fun (x17 : Option Addr) =>
 again7 (s6.1, x17, ())) (
 nn s6.2.1 fun p18 =>
 ld (.ptr) (p18.add 1) fun (x19 : Option Addr) =>
 again7 ((IntKind.wrap .i64 ((IntKind.wrap .i64 (s6.1 - x12)) - (1 : Int))), x19, ())))) (
 J3 ())) (a1, x5, ())) fun (s4 : Unit) =>
 newO (.cells #[(.slice none 0 0), (.int .i64 (0 : Int)), (.int .i64 (0 : Int)), (.int .i64 (0 : Int)), (.int .i64 (0 : Int)), (.bool false), (.bool false)] 112) fun b20 =>
 lds c112 (at0 b20) fun (x21 : (Sl × Int × Int × Int × Int × Bool × Bool × Unit)) =>
 aggSt (at0 b2) (.agg (Cells.vals c112 x21).toArray) 7 <|
 lds c112 (at0 b2) fun (x22 : (Sl × Int × Int × Int × Int × Bool × Bool × Unit)) =>
 K (x22, false, ())
noncomputable def h92 : Hint := (hS (hR 3) (hJ (70368744177378, []) (hS (hR 3) (.block (.loop 70368744175842 [(1, tI), (6, tP)] (hS (hJ (129024, [(16, tB)]) (.region [] (.ops 3 (.split 13 (hO 3) (.skips 2 (hO 1))))) (hC hL hL)) (.block (hS (hR 6) (.block (hS (hR 4) (hC (hS (hR 6) hL) (hS (hR 4) (hC (hR 5) (hR 10)))))))))))) (hS (hR 1) (hS (hR 3) hL))))
theorem F92_calls {a0 : (Option Addr × Unit)} {a1 : Int} {K : ((Sl × Int × Int × Int × Int × Bool × Bool × Unit) × Bool × Unit) → World → Prop} {w : World} (h : F92 a0 a1 K w) : callT Tryz.prog 92 #[(.agg (Cells.vals c105 a0).toArray), (.int .i64 a1)] (.tup [(.agg c112), (.one .bool)]) K w := tied tabOk Tryz.func92 h92 [(.agg (Cells.vals c105 a0).toArray), (.int .i64 a1)] (by kernel_rfl) h
noncomputable def F100 (a0 : Value) (v0 : Addr) (v1 : Addr) (K : Unit → World → Prop) : World → Prop :=
 chk (oneAll [a0] = true) <|
 newO (.cells #[a0] 146) fun b1 =>
 newO (.cells #[.nilFunc] 147) fun b2 =>
 chk (isOne (.func (Fn.func 101) #[] #[(.pointer (some (at0 b2))), (.pointer (some (at0 b1)))]) = true) <|
 stC (at0 b2) (.func (Fn.func 101) #[] #[(.pointer (some (at0 b2))), (.pointer (some (at0 b1)))]) <|
 ld (.any) (at0 b2) fun (x3 : Value) =>
 ld (.ptr) v0 fun (x4 : Option Addr) =>
 ld (.int .i64) v1 fun (x5 : Int) =>
 callX Tryz.prog (do let d ← Deferred.ofValue x3 #[(.pointer x4), (.int .i64 (if x5 > (0 : Int) then x5 else (0 : Int)))]; invoke d.target d.args : Sem Next) (.one (.one .bool)) fun (x6 : Bool) =>
 K ()
noncomputable def h100 : Hint := (hS (hR 1) (hS (hR 1) (hS (hR 2) (hR 6))))
theorem F100_calls {a0 : Value} {v0 : Addr} {v1 : Addr} {K : Unit → World → Prop} {w : World} (h : F100 a0 v0 v1 K w) : callT Tryz.prog 100 #[a0, (.pointer (some v0)), (.pointer (some v1))] (.tup []) K w := tied tabOk Tryz.func100 h100 [a0, (.pointer (some v0)), (.pointer (some v1))] (by kernel_rfl) h
noncomputable def F101 (a0 : Option Addr) (a1 : Int) (v0 : Addr) (v1 : Addr) (K : Bool → World → Prop) : World → Prop :=
 join (S := Bool × Unit) (fun J1 =>
 sif (Option.isNone a0) (
 J1 (true, ())) (
 nn a0 fun p3 =>
 ld (.int .i64) (p3.add 9) fun (x4 : Int) =>
 J1 ((decide (a1 ≥ x4)), ()))) fun (s2 : Bool × Unit) =>
 sif s2.1 (
 K true) (
 nn a0 fun p5 =>
 ld (.ptr) p5 fun (x6 : Option Addr) =>
 callT Tryz.prog 102 #[(.pointer x6)] (.one (.one (.int .i64))) fun (x7 : Int) =>
 join (S := Bool × Unit) (fun J8 =>
 drew <|
 sif (decide (a1 < x7)) (
 ld (.any) v0 fun (x10 : Value) =>
 nn a0 fun p11 =>
 ld (.ptr) p11 fun (x12 : Option Addr) =>
 callX Tryz.prog (do let d ← Deferred.ofValue x10 #[(.pointer x12), (.int .i64 a1)]; invoke d.target d.args : Sem Next) (.one (.one .bool)) fun (x13 : Bool) =>
 J8 ((!x13), ())) (
 J8 (false, ()))) fun (s9 : Bool × Unit) =>
 sif s9.1 (
 K false) (
 join (S := Bool × Unit) (fun J14 =>
 drew <|
 sif (decide (a1 ≤ x7)) (
 ld (.any) v1 fun (x16 : Value) =>
 nn a0 fun p17 =>
 lds c112 (p17.add 2) fun (x18 : (Sl × Int × Int × Int × Int × Bool × Bool × Unit)) =>
 callX Tryz.prog (do let d ← Deferred.ofValue x16 #[(.agg (Cells.vals c112 x18).toArray)]; invoke d.target d.args : Sem Next) (.one (.one .bool)) fun (x19 : Bool) =>
 J14 ((!x19), ())) (
 J14 (false, ()))) fun (s15 : Bool × Unit) =>
 sif s15.1 (
 K false) (
 drew <|
 ld (.any) v0 fun (x20 : Value) =>
 nn a0 fun p21 =>
 ld (.ptr) (p21.add 1) fun (x22 : Option Addr) =>
 callX Tryz.prog (do let d ← Deferred.ofValue x20 #[(.pointer x22), (.int .i64 (if (IntKind.wrap .i64 ((IntKind.wrap .i64 (a1 - x7)) - (1 : Int))) > (0 : Int) then (IntKind.wrap .i64 ((IntKind.wrap .i64 (a1 - x7)) - (1 : Int))) else (0 : Int)))]; invoke d.target d.args : Sem Next) (.one (.one .bool)) fun (x23 : Bool) =>
 K x23)))
noncomputable def h101 : Hint := (hS (hR 1) (hS (hJ (261888, [(17, tB)]) (.region [] (.ops 3 (.split 10 (.skips 6 (hO 1)) (hO 7)))) (hC (hS (hR 1) hL) hL)) (hS (hR 6) (hS (hJ (68711088128, [(35, tB)]) (.region [0, 1, 2, 3, 4, 5, 6, 7, 8, 9, 10, 11, 12] (.ops 4 (.split 26 (hO 9) (.skips 8 (hO 1))))) (hC (hS (hR 1) hL) hL)) (hS (hJ (281406257233920, [(47, tB)]) (.region [0, 1, 2, 3, 4, 5, 6, 7, 8, 9, 10, 11] (.ops 4 (.split 39 (hO 8) (.skips 7 (hO 1))))) (hC (hS (hR 1) hL) hL)) (hS (.region [0, 1, 2, 3, 4, 5, 6, 7, 8, 9, 10, 11] (hO 12)) hL))))))
theorem F101_calls {a0 : Option Addr} {a1 : Int} {v0 : Addr} {v1 : Addr} {K : Bool → World → Prop} {w : World} (h : F101 a0 a1 v0 v1 K w) : callT Tryz.prog 101 #[(.pointer a0), (.int .i64 a1), (.pointer (some v0)), (.pointer (some v1))] (.one (.one .bool)) K w := tied tabOk Tryz.func101 h101 [(.pointer a0), (.int .i64 a1), (.pointer (some v0)), (.pointer (some v1))] (by kernel_rfl) h
noncomputable def F102 (a0 : Option Addr) (K : Int → World → Prop) : World → Prop :=
 sif (Option.isNone a0) (
 K (0 : Int)) (
 nn a0 fun p1 =>
 ld (.int .i64) (p1.add 9) fun (x2 : Int) =>
 K x2)
noncomputable def h102 : Hint := (hS (hR 1) (hS (hS (hR 2) (hC (hS (hR 1) hL) hL)) (hS (hR 5) hL)))
theorem F102_calls {a0 : Option Addr} {K : Int → World → Prop} {w : World} (h : F102 a0 K w) : callT Tryz.prog 102 #[(.pointer a0)] (.one (.one (.int .i64))) K w := tied tabOk Tryz.func102 h102 [(.pointer a0)] (by kernel_rfl) h
noncomputable def F110 (a0 : Option Addr) (K : Int → World → Prop) : World → Prop :=
 nn a0 fun p1 =>
 lds c105 (p1.add 2) fun (x2 : (Option Addr × Unit)) =>
 callT Tryz.prog 70 #[(.agg (Cells.vals c105 x2).toArray)] (.one (.agg c110)) fun (x3 : (Int × Int × Int × Bool × Bool × Unit)) =>
 K x3.2.1
noncomputable def h110 : Hint := (hS (hR 1) (hS (hR 7) hL))
theorem F110_calls {a0 : Option Addr} {K : Int → World → Prop} {w : World} (h : F110 a0 K w) : callT Tryz.prog 110 #[(.pointer a0)] (.one (.one (.int .i64))) K w := tied tabOk Tryz.func110 h110 [(.pointer a0)] (by kernel_rfl) h
noncomputable def F111 (a0 : Int) (a1 : Int) (K : Int → World → Prop) : World → Prop :=
 callT Tryz.prog 85 #[(.int .i64 a0)] (.one (.one .any)) fun (x1 : Value) =>
 rdB Tryz.prog (do eqGuard .eql 132 (Operand.tmp 8) (Operand.const Value.nilIface) x1 .nilIface; binOp .eql 132 x1 .nilIface : Sem Value) fun r2 =>
 sif r2 (
 K (0 : Int)) (
 callX Tryz.prog (invoke (.fn (.method "copyist/codec.size") #[]) (#[x1] ++ #[(.int .i64 a1)])) (.one (.one (.int .i64))) fun (x3 : Int) =>
 K x3)
noncomputable def h111 : Hint := (hS (hR 1) (hS (hR 3) (hS (hS (hR 2) (hC (hS (hR 1) hL) hL)) (hS (hR 4) hL))))
theorem F111_calls {a0 : Int} {a1 : Int} {K : Int → World → Prop} {w : World} (h : F111 a0 a1 K w) : callT Tryz.prog 111 #[(.int .i64 a0), (.int .i64 a1)] (.one (.one (.int .i64))) K w := tied tabOk Tryz.func111 h111 [(.int .i64 a0), (.int .i64 a1)] (by kernel_rfl) h
noncomputable def F112 (a0 : (Sl × Int × Int × Int × Int × Bool × Bool × Unit)) (a1 : Int) (a2 : Int) (K : ((Sl × Int × Int × Int × Int × Bool × Bool × Unit) × (Sl × Int × Int × Int × Int × Bool × Bool × Unit) × Unit) → World → Prop) : World → Prop :=
 newO (.cells #[(.slice a0.1.a a0.1.len a0.1.cap), (.int .i64 a0.2.1), (.int .i64 a0.2.2.1), (.int .i64 a0.2.2.2.1), (.int .i64 a0.2.2.2.2.1), (.bool a0.2.2.2.2.2.1), (.bool a0.2.2.2.2.2.2.1)] 112) fun b1 =>
 newO (.cells #[(.slice none 0 0), (.int .i64 (0 : Int)), (.int .i64 (0 : Int)), (.int .i64 (0 : Int)), (.int .i64 (0 : Int)), (.bool false), (.bool false)] 112) fun b2 =>
 newO (.cells #[(.slice none 0 0), (.int .i64 (0 : Int)), (.int .i64 (0 : Int)), (.int .i64 (0 : Int)), (.int .i64 (0 : Int)), (.bool false), (.bool false)] 112) fun b3 =>
 join (S := Int × Unit) (fun J4 =>
 sloop (S := Int × Int × Unit) (fun (s6 : Int × Int × Unit) again7 =>
 join (S := Bool × Unit) (fun J8 =>
 sif (decide (s6.1 > (0 : Int))) (
 ld (.sl) (at0 b1) fun (x10 : Sl) =>
 J8 ((decide (s6.2.1 < ((x10.len : Nat) : Int))), ())) (
 J8 (false, ()))) fun (s9 : Bool × Unit) =>
 sif s9.1 (
 ld (.sl) (at0 b1) fun (x11 : Sl) =>
 callT Tryz.prog 63 #[(.int .i64 a1), (.slice x11.a x11.len x11.cap), (.int .i64 s6.2.1)] (.tup [(.one (.int .i64)), (.one (.int .i64))]) fun (x12 : (Int × Int × Unit)) =>
 again7 ((IntKind.wrap .i64 (s6.1 - (1 : Int))), (IntKind.wrap .i64 (s6.2.1 + x12.2.1)), ())) (
 J4 (s6.2.1, ()))) (a2, (0 : Int), ())) fun (s5 : Int × Unit) =>
 ld (.int .i64) (⟨b1, 1, none⟩ : Addr) fun (x13 : Int) =>
 join (S := Int × Unit) (fun J14 =>
 sif (decide (x13 ≥ (0 : Int))) (
 J14 ((IntKind.wrap .i64 (x13 + s5.1)), ())) (
 J14 (x13, ()))) fun (s15 : Int × Unit) =>
 drew <|
 ld (.sl) (at0 b1) fun (x16 : Sl) =>
 slc x16.a 0 s5.1 s5.1 x16.cap 1 fun x17 =>
 ld (.int .i64) (⟨b1, 1, none⟩ : Addr) fun (x18 : Int) =>
 ld (.sl) (at0 b1) fun (x19 : Sl) =>
 slc x19.a s5.1 ((x19.len : Nat) : Int) ((x19.cap : Nat) : Int) x19.cap 1 fun x20 =>
 callT Tryz.prog 64 #[(.int .i64 a1), (.slice x17.a x17.len x17.cap), (.int .i64 x18)] (.one (.agg c112)) fun (x21 : (Sl × Int × Int × Int × Int × Bool × Bool × Unit)) =>
 keep (fun w => w.cell? (at0 b1) = some (Cell.val (.sl) x19)) <|
 callT Tryz.prog 64 #[(.int .i64 a1), (.slice x20.a x20.len x20.cap), (.int .i64 s15.1)] (.one (.agg c112)) fun (x22 : (Sl × Int × Int × Int × Int × Bool × Bool × Unit)) =>
 aggSt (at0 b2) (.agg (Cells.vals c112 x21).toArray) 7 <|
 aggSt (at0 b3) (.agg (Cells.vals c112 x22).toArray) 7 <|
 lds c112 (at0 b2) fun (x23 : (Sl × Int × Int × Int × Int × Bool × Bool × Unit)) =>
 lds c112 (at0 b3) fun (x24 : (Sl × Int × Int × Int × Int × Bool × Bool × Unit)) =>
 K (x23, x24, ())
noncomputable def h112 : Hint := (hS (hR 3) (hS (hR 1) (hJ (17179866884, [(8, tI)]) (.block (.loop 17179866884 [(2, tI), (8, tI)] (hS (hJ (2093056, [(20, tB)]) (.region [] (.ops 3 (.split 14 (hO 6) (.skips 5 (hO 1))))) (hC hL hL)) (hS (.block (hS (hR 10) (hR 4))) (hR 3))))) (hS (hR 3) (hJ (2130303780864, [(11, tI)]) (hS (hR 2) (hC (hR 4) hL)) (hS (.region [0, 1, 2, 3, 4, 5, 6, 7, 9, 10, 11, 12, 13, 14, 8, 15, 16, 17] (hO 18)) hL))))))
theorem F112_calls {a0 : (Sl × Int × Int × Int × Int × Bool × Bool × Unit)} {a1 : Int} {a2 : Int} {K : ((Sl × Int × Int × Int × Int × Bool × Bool × Unit) × (Sl × Int × Int × Int × Int × Bool × Bool × Unit) × Unit) → World → Prop} {w : World} (h : F112 a0 a1 a2 K w) : callT Tryz.prog 112 #[(.agg (Cells.vals c112 a0).toArray), (.int .i64 a1), (.int .i64 a2)] (.tup [(.agg c112), (.agg c112)]) K w := tied tabOk Tryz.func112 h112 [(.agg (Cells.vals c112 a0).toArray), (.int .i64 a1), (.int .i64 a2)] (by kernel_rfl) h
noncomputable def F113 (a0 : Option Addr) (a1 : Sl) (K : Sl → World → Prop) : World → Prop :=
 newO (.cells #[(.pointer a0)] 25) fun b1 =>
 newO (.cells #[(.slice none 0 0)] 108) fun b2 =>
 ld (.ptr) (at0 b1) fun (x3 : Option Addr) =>
 nn x3 fun p4 =>
 ld (.sl) (p4.add 3) fun (x5 : Sl) =>
 newO (.cells #[(.int .i64 (0 : Int))] 3) fun b6 =>
 stC (at0 b6) (.int .i64 ((x5.len : Nat) : Int)) <|
 newO (.cells #[(.int .i64 (0 : Int))] 3) fun b7 =>
 stC (at0 b7) (.int .i64 (0 : Int)) <|
 join (S := Unit) (fun J8 =>
 sloop (S := Int × Unit) (fun (s10 : Int × Unit) again11 =>
 sif (decide (s10.1 < ((a1.len : Nat) : Int))) (
 join (S := Unit) (fun J12 =>
 ix a1.a a1.len s10.1 fun p14 =>
 ld (.int .i64) (p14.add (scaled (Int.toNat s10.1) 1)) fun (x15 : Int) =>
 join (S := Bool × Unit) (fun J16 =>
 sif (decide (x15 ≥ (0 : Int))) (
 sif (decide (x15 < (55296 : Int))) (
 J16 (true, ())) (
 J16 ((decide (x15 > (57343 : Int))), ()))) (
 J16 (false, ()))) fun (s17 : Bool × Unit) =>
 join (S := Unit) (fun J18 =>
 join (S := Bool × Unit) (fun J20 =>
 sif (!s17.1) (
 J20 (true, ())) (
 ld (.int .i64) (at0 b7) fun (x22 : Int) =>
 J20 ((x22 == (128 : Int)), ()))) fun (s21 : Bool × Unit) =>
 sif s21.1 (
 callX Tryz.prog (do let d ← Deferred.ofValue (.func (Fn.func 141) #[] #[(.pointer (some (at0 b1))), (.pointer (some (at0 b6))), (.pointer (some (at0 b2))), (.pointer (some (at0 b7)))]) #[]; invoke d.target d.args : Sem Next) (.tup []) fun (x23 : (Unit)) =>
 J18 ()) (
 J18 ())) fun (s19 : Unit) =>
 ld (.ptr) (at0 b1) fun (x24 : Option Addr) =>
 nn x24 fun p25 =>
 ld (.int .i64) p25 fun (x26 : Int) =>
 newO (.cells #[(.int .i64 x15)] 3) fun b27 =>
 callT Tryz.prog 142 #[(.int .i64 x26), (.slice (some (at0 b27)) 1 1)] (.tup [(.one .sl), (.one (.int .i64)), (.one (.int .i64))]) fun (x28 : (Sl × Int × Int × Unit)) =>
 drew <|
 ld (.ptr) (at0 b1) fun (x29 : Option Addr) =>
 ld (.ptr) (at0 b1) fun (x30 : Option Addr) =>
 nn x30 fun p31 =>
 ld (.sl) (p31.add 3) fun (x32 : Sl) =>
 rawT Tryz.prog (.one (.one .sl)) (Builtin.append_ #[22, 22] 22 #[(.slice x32.a x32.len x32.cap), (.slice x28.1.a x28.1.len x28.1.cap)]) fun (x33 : Sl) =>
 keep (fun w => w.cell? (at0 b1) = some (Cell.val (.ptr) x29)) <|
 nn x29 fun p34 =>
 stC (p34.add 3) (.slice x33.a x33.len x33.cap) <|
 ld (.int .i64) (at0 b7) fun (x35 : Int) =>
 stC (at0 b7) (.int .i64 (IntKind.wrap .i64 (x35 + (1 : Int)))) <|
 sif (!s17.1) (
 callX Tryz.prog (do let d ← Deferred.ofValue (.func (Fn.func 141) #[] #[(.pointer (some (at0 b1))), (.pointer (some (at0 b6))), (.pointer (some (at0 b2))), (.pointer (some (at0 b7)))]) #[]; invoke d.target d.args : Sem Next) (.tup []) fun (x36 : (Unit)) =>
 J12 ()) (
 J12 ())) fun (s13 : Unit) =>
 again11 ((IntKind.wrap .i64 (s10.1 + (1 : Int))), ())) (
 J8 ())) ((0 : Int), ())) fun (s9 : Unit) =>
 callX Tryz.prog (do let d ← Deferred.ofValue (.func (Fn.func 141) #[] #[(.pointer (some (at0 b1))), (.pointer (some (at0 b6))), (.pointer (some (at0 b2))), (.pointer (some (at0 b7)))]) #[]; invoke d.target d.args : Sem Next) (.tup []) fun (x37 : (Unit)) =>
 ld (.sl) (at0 b2) fun (x38 : Sl) =>
 K x38
noncomputable def h113 : Hint := (hS (hR 2) (hS (hR 1) (hS (hR 7) (hS (hR 2) (hS (hR 2) (hJ (4722366482869643148288, []) (hS (hR 3) (.block (.loop 4722366482869636856832 [(23, tI)] (hS (hR 1) (hS (hC hL hL) (hJ (2361183241434789084160, []) (.block (hS (hR 3) (hJ (137304737792, [(11, tB)]) (.region [] (.ops 3 (.split 29 (.ops 3 (.split 32 (.skips 2 (hO 3)) (hO 5))) (.skips 6 (hO 2))))) (hJ (35046933135360, []) (hJ (8658654068736, [(42, tB)]) (.region [] (.ops 3 (.split 39 (.skips 2 (hO 1)) (hO 3)))) (hC (hR 2) hL)) (hS (hR 14) (hS (.region [0, 1, 2, 3, 4, 5, 6, 7, 8, 9] (hO 10)) (hS (hR 3) (hS (hR 2) (hC (hR 2) hL))))))))) (hR 2))))))) (hS (hR 2) (hS (hR 2) hL))))))))
theorem F113_calls {a0 : Option Addr} {a1 : Sl} {K : Sl → World → Prop} {w : World} (h : F113 a0 a1 K w) : callT Tryz.prog 113 #[(.pointer a0), (.slice a1.a a1.len a1.cap)] (.one (.one .sl)) K w := tied tabOk Tryz.func113 h113 [(.pointer a0), (.slice a1.a a1.len a1.cap)] (by kernel_rfl) h
noncomputable def F114 (a0 : (Option Addr × Unit)) (a1 : Int) (a2 : Int) (a3 : Sl) (K : ((Option Addr × Unit) × Int × Unit) → World → Prop) : World → Prop :=
 newO (.cells #[(.pointer a0.1)] 105) fun b1 =>
 newO (.cells #[(.pointer none)] 105) fun b2 =>
 join (S := Bool × Unit) (fun J3 =>
 sif (decide (a1 < (0 : Int))) (
 J3 (true, ())) (
 sif (decide (a1 > a2)) (
 J3 (true, ())) (
 lds c105 (at0 b1) fun (x5 : (Option Addr × Unit)) =>
 callT Tryz.prog 115 #[(.agg (Cells.vals c105 x5).toArray)] (.one (.one (.int .i64))) fun (x6 : Int) =>
 J3 ((decide (a2 > x6)), ())))) fun (s4 : Bool × Unit) =>
 sif s4.1 (
 aggSt (at0 b2) (.agg #[(.pointer none)]) 1 <|
 lds c105 (at0 b2) fun (x7 : (Option Addr × Unit)) =>
 K (x7, (1 : Int), ())) (
 ld (.ptr) (at0 b1) fun (x8 : Option Addr) =>
 callT Tryz.prog 143 #[(.pointer x8), (.int .i64 a1)] (.tup [(.one .ptr), (.one .ptr)]) fun (x9 : (Option Addr × Option Addr × Unit)) =>
 ld (.ptr) (at0 b1) fun (x10 : Option Addr) =>
 callT Tryz.prog 143 #[(.pointer x10), (.int .i64 a2)] (.tup [(.one .ptr), (.one .ptr)]) fun (x11 : (Option Addr × Option Addr × Unit)) =>
 callT Tryz.prog 88 #[(.slice a3.a a3.len a3.cap)] (.one (.one .ptr)) fun (x12 : Option Addr) =>
 callT Tryz.prog 144 #[(.pointer x9.1), (.pointer x12)] (.one (.one .ptr)) fun (x13 : Option Addr) =>
 callT Tryz.prog 144 #[(.pointer x13), (.pointer x11.2.1)] (.one (.one .ptr)) fun (x14 : Option Addr) =>
 aggSt (at0 b2) (.agg #[(.pointer x14)]) 1 <|
 lds c105 (at0 b2) fun (x15 : (Option Addr × Unit)) =>
 K (x15, (0 : Int), ()))
noncomputable def h114 : Hint := (hS (hR 3) (hS (hJ (134201344, [(26, tB)]) (.region [] (.ops 3 (.split 16 (.skips 3 (.ops 2 (.skips 4 (hO 1)))) (.ops 5 (.split 21 (.skips 4 (hO 1)) (hO 5)))))) (hC (hS (hR 3) hL) hL)) (hS (hR 9) (hS (hR 9) (hS (hR 9) hL)))))
theorem F114_calls {a0 : (Option Addr × Unit)} {a1 : Int} {a2 : Int} {a3 : Sl} {K : ((Option Addr × Unit) × Int × Unit) → World → Prop} {w : World} (h : F114 a0 a1 a2 a3 K w) : callT Tryz.prog 114 #[(.agg (Cells.vals c105 a0).toArray), (.int .i64 a1), (.int .i64 a2), (.slice a3.a a3.len a3.cap)] (.tup [(.agg c105), (.one (.int .i64))]) K w := tied tabOk Tryz.func114 h114 [(.agg (Cells.vals c105 a0).toArray), (.int .i64 a1), (.int .i64 a2), (.slice a3.a a3.len a3.cap)] (by kernel_rfl) h
noncomputable def F115 (a0 : (Option Addr × Unit)) (K : Int → World → Prop) : World → Prop :=
 newO (.cells #[(.pointer a0.1)] 105) fun b1 =>
 ld (.ptr) (at0 b1) fun (x2 : Option Addr) =>
 callT Tryz.prog 102 #[(.pointer x2)] (.one (.one (.int .i64))) fun (x3 : Int) =>
 K x3
noncomputable def h115 : Hint := (hS (hR 2) (hS (hR 4) hL))
theorem F115_calls {a0 : (Option Addr × Unit)} {K : Int → World → Prop} {w : World} (h : F115 a0 K w) : callT Tryz.prog 115 #[(.agg (Cells.vals c105 a0).toArray)] (.one (.one (.int .i64))) K w := tied tabOk Tryz.func115 h115 [(.agg (Cells.vals c105 a0).toArray)] (by kernel_rfl) h
noncomputable def F116 (a0 : Sl) (a1 : Int) (a2 : Int) (K : Int → World → Prop) : World → Prop :=
 newO (.cells #[(.int .i64 (0 : Int)), (.int .i64 (0 : Int)), (.int .i64 (0 : Int)), (.int .i64 (0 : Int)), (.int .i64 (0 : Int))] 192) fun b1 =>
 aggSt (at0 b1) (.agg #[(.int .i64 (0 : Int)), (.int .i64 (0 : Int)), (.int .i64 (192 : Int)), (.int .i64 (224 : Int)), (.int .i64 (240 : Int))]) 5 <|
 drew <|
 ix a0.a a0.len a1 fun p2 =>
 ld (.int .u8) (p2.add (scaled (Int.toNat a1) 1)) fun (x3 : Int) =>
 chk (0 ≤ a2 ∧ a2 < ((5 : Nat) : Int)) <|
 ld (.int .i64) ((at0 b1).add (scaled (Int.toNat a2) 1)) fun (x4 : Int) =>
 join (S := Int × Unit) (fun J5 =>
 sloop (S := Int × Int × Unit) (fun (s7 : Int × Int × Unit) again8 =>
 sif (decide (s7.2.1 < a2)) (
 ix a0.a a0.len (IntKind.wrap .i64 (a1 + s7.2.1)) fun p9 =>
 ld (.int .u8) (p9.add (scaled (Int.toNat (IntKind.wrap .i64 (a1 + s7.2.1))) 1)) fun (x10 : Int) =>
 again8 ((IntKind.wrap .i64 ((IntKind.wrap .i64 ((IntKind.wrap .i64 (s7.1 * (64 : Int))) + (IntKind.wrap .i64 x10))) - (128 : Int))), (IntKind.wrap .i64 (s7.2.1 + (1 : Int))), ())) (
 J5 (s7.1, ()))) ((IntKind.wrap .i64 ((IntKind.wrap .i64 x3) - x4)), (1 : Int), ())) fun (s6 : Int × Unit) =>
 K s6.1
noncomputable def h116 : Hint := (hS (hR 1) (hS (hR 3) (hS (.region [0, 1, 2, 3, 4, 5, 6, 7, 8, 9] (hO 10)) (hJ (68718428928, [(8, tI)]) (hS (hR 1) (.block (.loop 68718428928 [(8, tI), (9, tI)] (hS (hS (hR 3) (hC hL hL)) (hS (.block (hR 12)) (hR 3)))))) (hS (hR 2) hL)))))
theorem F116_calls {a0 : Sl} {a1 : Int} {a2 : Int} {K : Int → World → Prop} {w : World} (h : F116 a0 a1 a2 K w) : callT Tryz.prog 116 #[(.slice a0.a a0.len a0.cap), (.int .i64 a1), (.int .i64 a2)] (.one (.one (.int .i64))) K w := tied tabOk Tryz.func116 h116 [(.slice a0.a a0.len a0.cap), (.int .i64 a1), (.int .i64 a2)] (by kernel_rfl) h
noncomputable def F117 (a0 : Int) (K : Bool → World → Prop) : World → Prop :=
 sif (decide (a0 ≥ (0 : Int))) (
 sif (decide (a0 < (55296 : Int))) (
 K true) (
 sif (decide (a0 > (57343 : Int))) (
 K (decide (a0 ≤ (1114111 : Int)))) (
 K false))) (
 sif (decide (a0 > (57343 : Int))) (
 K (decide (a0 ≤ (1114111 : Int)))) (
 K false))
noncomputable def h117 : Hint := (hS (hR 1) (hS (.region [] (.ops 3 (.split 5 (.ops 4 (.split 9 (.skips 6 (hO 2)) (.ops 3 (.split 12 (hO 5) (.skips 2 (hO 3)))))) (.skips 2 (.ops 5 (.split 12 (hO 5) (.skips 2 (hO 3)))))))) hL))
theorem F117_calls {a0 : Int} {K : Bool → World → Prop} {w : World} (h : F117 a0 K w) : callT Tryz.prog 117 #[(.int .i64 a0)] (.one (.one .bool)) K w := tied tabOk Tryz.func117 h117 [(.int .i64 a0)] (by kernel_rfl) h
noncomputable def F118 (a0 : Int) (K : Sl → World → Prop) : World → Prop :=
 sif (decide (a0 < (128 : Int))) (
 newO (.cells #[(.int .u8 (IntKind.wrap .u8 a0))] 5) fun b1 =>
 K ⟨(some (at0 b1)), 1, 1⟩) (
 sif (decide (a0 < (2048 : Int))) (
 chk ((64 : Int) ≠ 0) <|
 chk ((64 : Int) ≠ 0) <|
 newO (.cells #[(.int .u8 (IntKind.wrap .u8 (IntKind.wrap .i64 ((192 : Int) + (IntKind.wrap .i64 (Int.tdiv a0 (64 : Int))))))), (.int .u8 (IntKind.wrap .u8 (IntKind.wrap .i64 ((128 : Int) + (Int.tmod a0 (64 : Int))))))] 5) fun b2 =>
 K ⟨(some (at0 b2)), 2, 2⟩) (
 sif (decide (a0 < (65536 : Int))) (
 chk ((4096 : Int) ≠ 0) <|
 chk ((64 : Int) ≠ 0) <|
 chk ((64 : Int) ≠ 0) <|
 chk ((64 : Int) ≠ 0) <|
 newO (.cells #[(.int .u8 (IntKind.wrap .u8 (IntKind.wrap .i64 ((224 : Int) + (IntKind.wrap .i64 (Int.tdiv a0 (4096 : Int))))))), (.int .u8 (IntKind.wrap .u8 (IntKind.wrap .i64 ((128 : Int) + (Int.tmod (IntKind.wrap .i64 (Int.tdiv a0 (64 : Int))) (64 : Int)))))), (.int .u8 (IntKind.wrap .u8 (IntKind.wrap .i64 ((128 : Int) + (Int.tmod a0 (64 : Int))))))] 5) fun b3 =>
 K ⟨(some (at0 b3)), 3, 3⟩) (
 chk ((262144 : Int) ≠ 0) <|
 chk ((4096 : Int) ≠ 0) <|
 chk ((64 : Int) ≠ 0) <|
 chk ((64 : Int) ≠ 0) <|
 chk ((64 : Int) ≠ 0) <|
 chk ((64 : Int) ≠ 0) <|
 newO (.cells #[(.int .u8 (IntKind.wrap .u8 (IntKind.wrap .i64 ((240 : Int) + (IntKind.wrap .i64 (Int.tdiv a0 (262144 : Int))))))), (.int .u8 (IntKind.wrap .u8 (IntKind.wrap .i64 ((128 : Int) + (Int.tmod (IntKind.wrap .i64 (Int.tdiv a0 (4096 : Int))) (64 : Int)))))), (.int .u8 (IntKind.wrap .u8 (IntKind.wrap .i64 ((128 : Int) + (Int.tmod (IntKind.wrap .i64 (Int.tdiv a0 (64 : Int))) (64 : Int)))))), (.int .u8 (IntKind.wrap .u8 (IntKind.wrap .i64 ((128 : Int) + (Int.tmod a0 (64 : Int))))))] 5) fun b4 =>
 K ⟨(some (at0 b4)), 4, 4⟩)))
noncomputable def h118 : Hint := (hS (hR 1) (hS (.block (hS (hR 3) (hC (hS (hR 4) hL) (hS (hR 3) (hC (hS (hR 10) hL) (hS (hR 3) (hC (hS (hR 15) hL) hL))))))) (hS (hR 20) hL)))
theorem F118_calls {a0 : Int} {K : Sl → World → Prop} {w : World} (h : F118 a0 K w) : callT Tryz.prog 118 #[(.int .i64 a0)] (.one (.one .sl)) K w := tied tabOk Tryz.func118 h118 [(.int .i64 a0)] (by kernel_rfl) h
noncomputable def F119 (a0 : Sl) (a1 : Int) (a2 : Sl) (K : Bool → World → Prop) : World → Prop :=
 sif (decide ((IntKind.wrap .i64 (a1 + ((a2.len : Nat) : Int))) > ((a0.len : Nat) : Int))) (
 K false) (
 join (S := Unit) (fun J1 =>
 sloop (S := Int × Unit) (fun (s3 : Int × Unit) again4 =>
 sif (decide (s3.1 < ((a2.len : Nat) : Int))) (
 drew <|
 ix a0.a a0.len (IntKind.wrap .i64 (a1 + s3.1)) fun p5 =>
 ld (.int .u8) (p5.add (scaled (Int.toNat (IntKind.wrap .i64 (a1 + s3.1))) 1)) fun (x6 : Int) =>
 ix a2.a a2.len s3.1 fun p7 =>
 ld (.int .u8) (p7.add (scaled (Int.toNat s3.1) 1)) fun (x8 : Int) =>
 sif (x6 != x8) (
 K false) (
 again4 ((IntKind.wrap .i64 (s3.1 + (1 : Int))), ()))) (
 J1 ())) ((0 : Int), ())) fun (s2 : Unit) =>
 K true)
noncomputable def h119 : Hint := (hS (hR 1) (hS (hS (hR 7) (hC (hS (hR 1) hL) hL)) (hJ (4294934720, []) (hS (hR 1) (.block (.loop 4294934720 [(7, tI)] (hS (hS (hR 4) (hC hL hL)) (hS (.block (hS (.region [0, 1, 2, 3, 4, 5, 6, 7, 8, 9, 10] (hO 11)) (hC (hS (hR 1) hL) hL))) (hR 3)))))) (hS (hR 1) hL))))
theorem F119_calls {a0 : Sl} {a1 : Int} {a2 : Sl} {K : Bool → World → Prop} {w : World} (h : F119 a0 a1 a2 K w) : callT Tryz.prog 119 #[(.slice a0.a a0.len a0.cap), (.int .i64 a1), (.slice a2.a a2.len a2.cap)] (.one (.one .bool)) K w := tied tabOk Tryz.func119 h119 [(.slice a0.a a0.len a0.cap), (.int .i64 a1), (.slice a2.a a2.len a2.cap)] (by kernel_rfl) h
noncomputable def F120 (a0 : Option Addr) (a1 : (Sl × Int × Int × Int × Int × Bool × Bool × Unit)) (a2 : Option Addr) (K : Option Addr → World → Prop) : World → Prop :=
 newO (.cells #[(.slice a1.1.a a1.1.len a1.1.cap), (.int .i64 a1.2.1), (.int .i64 a1.2.2.1), (.int .i64 a1.2.2.2.1), (.int .i64 a1.2.2.2.2.1), (.bool a1.2.2.2.2.2.1), (.bool a1.2.2.2.2.2.2.1)] 112) fun b1 =>
 drew <|
 lds c112 (at0 b1) fun (x2 : (Sl × Int × Int × Int × Int × Bool × Bool × Unit)) =>
 callT Tryz.prog 102 #[(.pointer a0)] (.one (.one (.int .i64))) fun (x3 : Int) =>
 keep (fun w => cellsAt w (at0 b1) 0 (Cells.vals c112 x2)) <|
 callT Tryz.prog 102 #[(.pointer a2)] (.one (.one (.int .i64))) fun (x4 : Int) =>
 keep (fun w => cellsAt w (at0 b1) 0 (Cells.vals c112 x2)) <|
 callT Tryz.prog 145 #[(.pointer a0)] (.one (.one (.int .i64))) fun (x5 : Int) =>
 keep (fun w => cellsAt w (at0 b1) 0 (Cells.vals c112 x2)) <|
 callT Tryz.prog 145 #[(.pointer a2)] (.one (.one (.int .i64))) fun (x6 : Int) =>
 keep (fun w => cellsAt w (at0 b1) 0 (Cells.vals c112 x2)) <|
 newO (.cells (Value.cells (.agg #[(.pointer a0), (.pointer a2), (.slice x2.1.a x2.1.len x2.1.cap), (.int .i64 x2.2.1), (.int .i64 x2.2.2.1), (.int .i64 x2.2.2.2.1), (.int .i64 x2.2.2.2.2.1), (.bool x2.2.2.2.2.2.1), (.bool x2.2.2.2.2.2.2.1), (.int .i64 (IntKind.wrap .i64 ((IntKind.wrap .i64 (x3 + (1 : Int))) + x4))), (.int .i64 (IntKind.wrap .i64 ((if x6 > x5 then x6 else x5) + (1 : Int)))), (.int .i64 (0 : Int)), (.int .i64 (0 : Int)), (.int .i64 (0 : Int)), (.bool false), (.bool false)])) 144) fun b7 =>
 lds c112 (at0 b1) fun (x8 : (Sl × Int × Int × Int × Int × Bool × Bool × Unit)) =>
 callX Tryz.prog (invoke (.fn (.method "Measure") #[]) (#[(.iface 112 (.agg (Cells.vals c112 x8).toArray))] ++ #[])) (.one (.agg c110)) fun (x9 : (Int × Int × Int × Bool × Bool × Unit)) =>
 nn (some (at0 b7)) fun p10 =>
 aggSt (p10.add 11) (.agg (Cells.vals c110 x9).toArray) 5 <|
 join (S := Unit) (fun J11 =>
 sif (!(Option.isNone a0)) (
 drew <|
 nn a0 fun p13 =>
 lds c110 (p13.add 11) fun (x14 : (Int × Int × Int × Bool × Bool × Unit)) =>
 nn (some (at0 b7)) fun p15 =>
 lds c110 (p15.add 11) fun (x16 : (Int × Int × Int × Bool × Bool × Unit)) =>
 callX Tryz.prog (invoke (.fn (.method "Add") #[]) (#[(.iface 110 (.agg (Cells.vals c110 x14).toArray))] ++ #[(.agg (Cells.vals c110 x16).toArray)])) (.one (.agg c110)) fun (x17 : (Int × Int × Int × Bool × Bool × Unit)) =>
 nn (some (at0 b7)) fun p18 =>
 aggSt (p18.add 11) (.agg (Cells.vals c110 x17).toArray) 5 <|
 J11 ()) (
 J11 ())) fun (s12 : Unit) =>
 join (S := Unit) (fun J19 =>
 sif (!(Option.isNone a2)) (
 drew <|
 nn (some (at0 b7)) fun p21 =>
 lds c110 (p21.add 11) fun (x22 : (Int × Int × Int × Bool × Bool × Unit)) =>
 nn a2 fun p23 =>
 lds c110 (p23.add 11) fun (x24 : (Int × Int × Int × Bool × Bool × Unit)) =>
 callX Tryz.prog (invoke (.fn (.method "Add") #[]) (#[(.iface 110 (.agg (Cells.vals c110 x22).toArray))] ++ #[(.agg (Cells.vals c110 x24).toArray)])) (.one (.agg c110)) fun (x25 : (Int × Int × Int × Bool × Bool × Unit)) =>
 nn (some (at0 b7)) fun p26 =>
 aggSt (p26.add 11) (.agg (Cells.vals c110 x25).toArray) 5 <|
 J19 ()) (
 J19 ())) fun (s20 : Unit) =>
 K (some (at0 b7))
noncomputable def h120 : Hint := (hS (hR 2) (hS (.region [0, 1, 2, 3, 6, 9, 11, 4, 5, 7, 8, 10, 12, 13, 14, 15, 16, 17] (hO 18)) (hS (hR 7) (hJ (70366596694016, []) (hS (hR 2) (hC (.region [0, 1, 2, 3, 4, 5, 6, 7, 8, 9, 10, 11, 12, 13] (hO 14)) hL)) (hJ (2305772640469516288, []) (hS (hR 2) (hC (.region [0, 1, 2, 3, 4, 5, 6, 7, 8, 9, 10, 11, 12, 13] (hO 14)) hL)) (hS (hR 2) hL))))))
theorem F120_calls {a0 : Option Addr} {a1 : (Sl × Int × Int × Int × Int × Bool × Bool × Unit)} {a2 : Option Addr} {K : Option Addr → World → Prop} {w : World} (h : F120 a0 a1 a2 K w) : callT Tryz.prog 120 #[(.pointer a0), (.agg (Cells.vals c112 a1).toArray), (.pointer a2)] (.one (.one .ptr)) K w := tied tabOk Tryz.func120 h120 [(.pointer a0), (.agg (Cells.vals c112 a1).toArray), (.pointer a2)] (by kernel_rfl) h
noncomputable def F141 (v0 : Addr) (v1 : Addr) (v2 : Addr) (v3 : Addr) (K : Unit → World → Prop) : World → Prop :=
 ld (.ptr) v0 fun (x1 : Option Addr) =>
 nn x1 fun p2 =>
 ld (.sl) (p2.add 3) fun (x3 : Sl) =>
 ld (.int .i64) v1 fun (x4 : Int) =>
 sif (decide (((x3.len : Nat) : Int) > x4)) (
 drew <|
 ld (.sl) v2 fun (x5 : Sl) =>
 ld (.ptr) v0 fun (x6 : Option Addr) =>
 nn x6 fun p7 =>
 ld (.int .i64) p7 fun (x8 : Int) =>
 ld (.ptr) v0 fun (x9 : Option Addr) =>
 nn x9 fun p10 =>
 ld (.sl) (p10.add 3) fun (x11 : Sl) =>
 ld (.int .i64) v1 fun (x12 : Int) =>
 slc x11.a x12 ((x3.len : Nat) : Int) ((x3.len : Nat) : Int) x11.cap 1 fun x13 =>
 callT Tryz.prog 64 #[(.int .i64 x8), (.slice x13.a x13.len x13.cap), (.int .i64 (-1 : Int))] (.one (.agg c112)) fun (x14 : (Sl × Int × Int × Int × Int × Bool × Bool × Unit)) =>
 keep (fun w => w.cell? v2 = some (Cell.val (.sl) x5)) <|
 newO (.cells #[(.slice x14.1.a x14.1.len x14.1.cap), (.int .i64 x14.2.1), (.int .i64 x14.2.2.1), (.int .i64 x14.2.2.2.1), (.int .i64 x14.2.2.2.2.1), (.bool x14.2.2.2.2.2.1), (.bool x14.2.2.2.2.2.2.1)] 112) fun b15 =>
 keep (fun w => w.cell? v2 = some (Cell.val (.sl) x5)) <|
 rawT Tryz.prog (.one (.one .sl)) (Builtin.append_ #[108, 108] 108 #[(.slice x5.a x5.len x5.cap), (.slice (some (at0 b15)) 1 1)]) fun (x16 : Sl) =>
 stC v2 (.slice x16.a x16.len x16.cap) <|
 stC v1 (.int .i64 ((x3.len : Nat) : Int)) <|
 stC v3 (.int .i64 (0 : Int)) <|
 K ()) (
 K ())
noncomputable def h141 : Hint := (hS (hR 6) (hS (hR 3) (hC (hS (.region [0, 1, 2, 3, 4, 5, 6, 7, 8, 9, 10, 11, 12, 13, 14, 15, 16] (hO 17)) (hR 3)) hL)))
theorem F141_calls {v0 : Addr} {v1 : Addr} {v2 : Addr} {v3 : Addr} {K : Unit → World → Prop} {w : World} (h : F141 v0 v1 v2 v3 K w) : callT Tryz.prog 141 #[(.pointer (some v0)), (.pointer (some v1)), (.pointer (some v2)), (.pointer (some v3))] (.tup []) K w := tied tabOk Tryz.func141 h141 [(.pointer (some v0)), (.pointer (some v1)), (.pointer (some v2)), (.pointer (some v3))] (by kernel_rfl) h
noncomputable def F142 (a0 : Int) (a1 : Sl) (K : (Sl × Int × Int × Unit) → World → Prop) : World → Prop :=
 callT Tryz.prog 85 #[(.int .i64 a0)] (.one (.one .any)) fun (x1 : Value) =>
 rdB Tryz.prog (do eqGuard .eql 132 (Operand.tmp 13) (Operand.const Value.nilIface) x1 .nilIface; binOp .eql 132 x1 .nilIface : Sem Value) fun r2 =>
 sif r2 (
 K (⟨none, 0, 0⟩, (0 : Int), (10 : Int), ())) (
 join (S := Sl × Unit) (fun J3 =>
 sloop (S := Sl × Int × Unit) (fun (s5 : Sl × Int × Unit) again6 =>
 sif (decide (s5.2.1 < ((a1.len : Nat) : Int))) (
 ix a1.a a1.len s5.2.1 fun p7 =>
 ld (.int .i64) (p7.add (scaled (Int.toNat s5.2.1) 1)) fun (x8 : Int) =>
 callX Tryz.prog (invoke (.fn (.method "copyist/codec.size") #[]) (#[x1] ++ #[(.int .i64 x8)])) (.one (.one (.int .i64))) fun (x9 : Int) =>
 sif (x9 == (0 : Int)) (
 K (⟨none, 0, 0⟩, s5.2.1, (11 : Int), ())) (
 callX Tryz.prog (invoke (.fn (.method "copyist/codec.put") #[]) (#[x1] ++ #[(.slice s5.1.a s5.1.len s5.1.cap), (.int .i64 x8)])) (.one (.one .sl)) fun (x10 : Sl) =>
 again6 (x10, (IntKind.wrap .i64 (s5.2.1 + (1 : Int))), ()))) (
 J3 (s5.1, ()))) (⟨none, 0, 0⟩, (0 : Int), ())) fun (s4 : Sl × Unit) =>
 K (s4.1, (0 : Int), (0 : Int), ()))
noncomputable def h142 : Hint := (hS (hR 3) (hS (hR 3) (hS (hS (hR 2) (hC (hS (hR 3) hL) hL)) (hS (hR 1) (hJ (4294936432, [(8, tS)]) (hS (hR 3) (.block (.loop 4294838128 [(8, tS), (17, tI)] (hS (hR 1) (hS (hC hL hL) (hS (.block (hS (hR 5) (hS (hS (hR 4) (hC (hS (hR 4) hL) hL)) (hR 5)))) (hR 2))))))) (hS (hR 4) hL))))))
theorem F142_calls {a0 : Int} {a1 : Sl} {K : (Sl × Int × Int × Unit) → World → Prop} {w : World} (h : F142 a0 a1 K w) : callT Tryz.prog 142 #[(.int .i64 a0), (.slice a1.a a1.len a1.cap)] (.tup [(.one .sl), (.one (.int .i64)), (.one (.int .i64))]) K w := tied tabOk Tryz.func142 h142 [(.int .i64 a0), (.slice a1.a a1.len a1.cap)] (by kernel_rfl) h
noncomputable def F143 (a0 : Option Addr) (a1 : Int) (K : (Option Addr × Option Addr × Unit) → World → Prop) : World → Prop :=
 sif (Option.isNone a0) (
 K (none, none, ())) (
 nn a0 fun p1 =>
 ld (.ptr) p1 fun (x2 : Option Addr) =>
 callT Tryz.prog 102 #[(.pointer x2)] (.one (.one (.int .i64))) fun (x3 : Int) =>
 sif (decide (a1 ≤ x3)) (
 nn a0 fun p4 =>
 ld (.ptr) p4 fun (x5 : Option Addr) =>
 callT Tryz.prog 143 #[(.pointer x5), (.int .i64 a1)] (.tup [(.one .ptr), (.one .ptr)]) fun (x6 : (Option Addr × Option Addr × Unit)) =>
 drew <|
 nn a0 fun p7 =>
 lds c112 (p7.add 2) fun (x8 : (Sl × Int × Int × Int × Int × Bool × Bool × Unit)) =>
 nn a0 fun p9 =>
 ld (.ptr) (p9.add 1) fun (x10 : Option Addr) =>
 callT Tryz.prog 156 #[(.pointer x6.2.1), (.agg (Cells.vals c112 x8).toArray), (.pointer x10)] (.one (.one .ptr)) fun (x11 : Option Addr) =>
 K (x6.1, x11, ())) (
 nn a0 fun p12 =>
 ld (.ptr) (p12.add 1) fun (x13 : Option Addr) =>
 callT Tryz.prog 143 #[(.pointer x13), (.int .i64 (IntKind.wrap .i64 ((IntKind.wrap .i64 (a1 - x3)) - (1 : Int))))] (.tup [(.one .ptr), (.one .ptr)]) fun (x14 : (Option Addr × Option Addr × Unit)) =>
 drew <|
 nn a0 fun p15 =>
 ld (.ptr) p15 fun (x16 : Option Addr) =>
 nn a0 fun p17 =>
 lds c112 (p17.add 2) fun (x18 : (Sl × Int × Int × Int × Int × Bool × Bool × Unit)) =>
 callT Tryz.prog 156 #[(.pointer x16), (.agg (Cells.vals c112 x18).toArray), (.pointer x14.1)] (.one (.one .ptr)) fun (x19 : Option Addr) =>
 K (x19, x14.2.1, ())))
noncomputable def h143 : Hint := (hS (hR 2) (hS (hS (hR 2) (hC (hS (hR 2) hL) hL)) (hS (hR 6) (hS (hR 3) (hC (hS (hR 11) (hS (.region [0, 1, 2, 3, 4, 5, 6, 7, 8, 9, 10, 11, 12] (hO 13)) hL)) (hS (hR 14) (hS (.region [0, 1, 2, 3, 4, 5, 6, 7, 8, 10, 9, 11, 12] (hO 13)) hL)))))))
theorem F143_calls {a0 : Option Addr} {a1 : Int} {K : (Option Addr × Option Addr × Unit) → World → Prop} {w : World} (h : F143 a0 a1 K w) : callT Tryz.prog 143 #[(.pointer a0), (.int .i64 a1)] (.tup [(.one .ptr), (.one .ptr)]) K w := tied tabOk Tryz.func143 h143 [(.pointer a0), (.int .i64 a1)] (by kernel_rfl) h
noncomputable def F144 (a0 : Option Addr) (a1 : Option Addr) (K : Option Addr → World → Prop) : World → Prop :=
 sif (Option.isNone a1) (
 K a0) (
 callT Tryz.prog 157 #[(.pointer a1)] (.tup [(.agg c112), (.one .ptr)]) fun (x1 : ((Sl × Int × Int × Int × Int × Bool × Bool × Unit) × Option Addr × Unit)) =>
 newO (.cells #[(.slice none 0 0), (.int .i64 (0 : Int)), (.int .i64 (0 : Int)), (.int .i64 (0 : Int)), (.int .i64 (0 : Int)), (.bool false), (.bool false)] 112) fun b2 =>
 aggSt (at0 b2) (.agg (Cells.vals c112 x1.1).toArray) 7 <|
 lds c112 (at0 b2) fun (x3 : (Sl × Int × Int × Int × Int × Bool × Bool × Unit)) =>
 callT Tryz.prog 156 #[(.pointer a0), (.agg (Cells.vals c112 x3).toArray), (.pointer x1.2.1)] (.one (.one .ptr)) fun (x4 : Option Addr) =>
 K x4)
noncomputable def h144 : Hint := (hS (hR 1) (hS (hS (hR 2) (hC (hS (hR 2) hL) hL)) (hS (hR 8) (hS (hR 5) hL))))
theorem F144_calls {a0 : Option Addr} {a1 : Option Addr} {K : Option Addr → World → Prop} {w : World} (h : F144 a0 a1 K w) : callT Tryz.prog 144 #[(.pointer a0), (.pointer a1)] (.one (.one .ptr)) K w := tied tabOk Tryz.func144 h144 [(.pointer a0), (.pointer a1)] (by kernel_rfl) h
noncomputable def F145 (a0 : Option Addr) (K : Int → World → Prop) : World → Prop :=
 sif (Option.isNone a0) (
 K (0 : Int)) (
 nn a0 fun p1 =>
 ld (.int .i64) (p1.add 10) fun (x2 : Int) =>
 K x2)
noncomputable def h145 : Hint := (hS (hR 1) (hS (hS (hR 2) (hC (hS (hR 1) hL) hL)) (hS (hR 5) hL)))
theorem F145_calls {a0 : Option Addr} {K : Int → World → Prop} {w : World} (h : F145 a0 K w) : callT Tryz.prog 145 #[(.pointer a0)] (.one (.one (.int .i64))) K w := tied tabOk Tryz.func145 h145 [(.pointer a0)] (by kernel_rfl) h
noncomputable def F156 (a0 : Option Addr) (a1 : (Sl × Int × Int × Int × Int × Bool × Bool × Unit)) (a2 : Option Addr) (K : Option Addr → World → Prop) : World → Prop :=
 newO (.cells #[(.slice a1.1.a a1.1.len a1.1.cap), (.int .i64 a1.2.1), (.int .i64 a1.2.2.1), (.int .i64 a1.2.2.2.1), (.int .i64 a1.2.2.2.2.1), (.bool a1.2.2.2.2.2.1), (.bool a1.2.2.2.2.2.2.1)] 112) fun b1 =>
 callT Tryz.prog 145 #[(.pointer a0)] (.one (.one (.int .i64))) fun (x2 : Int) =>
 callT Tryz.prog 145 #[(.pointer a2)] (.one (.one (.int .i64))) fun (x3 : Int) =>
 sif (decide (x2 > (IntKind.wrap .i64 (x3 + (1 : Int))))) (
 drew <|
 nn a0 fun p4 =>
 ld (.ptr) p4 fun (x5 : Option Addr) =>
 nn a0 fun p6 =>
 lds c112 (p6.add 2) fun (x7 : (Sl × Int × Int × Int × Int × Bool × Bool × Unit)) =>
 nn a0 fun p8 =>
 ld (.ptr) (p8.add 1) fun (x9 : Option Addr) =>
 lds c112 (at0 b1) fun (x10 : (Sl × Int × Int × Int × Int × Bool × Bool × Unit)) =>
 callT Tryz.prog 156 #[(.pointer x9), (.agg (Cells.vals c112 x10).toArray), (.pointer a2)] (.one (.one .ptr)) fun (x11 : Option Addr) =>
 keep (fun w => cellsAt w (p6.add 2) 0 (Cells.vals c112 x7)) <|
 keep (fun w => w.cell? p4 = some (Cell.val (.ptr) x5)) <|
 callT Tryz.prog 164 #[(.pointer x5), (.agg (Cells.vals c112 x7).toArray), (.pointer x11)] (.one (.one .ptr)) fun (x12 : Option Addr) =>
 K x12) (
 callT Tryz.prog 145 #[(.pointer a2)] (.one (.one (.int .i64))) fun (x13 : Int) =>
 callT Tryz.prog 145 #[(.pointer a0)] (.one (.one (.int .i64))) fun (x14 : Int) =>
 sif (decide (x13 > (IntKind.wrap .i64 (x14 + (1 : Int))))) (
 drew <|
 lds c112 (at0 b1) fun (x15 : (Sl × Int × Int × Int × Int × Bool × Bool × Unit)) =>
 nn a2 fun p16 =>
 ld (.ptr) p16 fun (x17 : Option Addr) =>
 nn a2 fun p18 =>
 lds c112 (p18.add 2) fun (x19 : (Sl × Int × Int × Int × Int × Bool × Bool × Unit)) =>
 nn a2 fun p20 =>
 ld (.ptr) (p20.add 1) fun (x21 : Option Addr) =>
 callT Tryz.prog 156 #[(.pointer a0), (.agg (Cells.vals c112 x15).toArray), (.pointer x17)] (.one (.one .ptr)) fun (x22 : Option Addr) =>
 keep (fun w => w.cell? (p20.add 1) = some (Cell.val (.ptr) x21)) <|
 keep (fun w => cellsAt w (p18.add 2) 0 (Cells.vals c112 x19)) <|
 callT Tryz.prog 164 #[(.pointer x22), (.agg (Cells.vals c112 x19).toArray), (.pointer x21)] (.one (.one .ptr)) fun (x23 : Option Addr) =>
 K x23) (
 lds c112 (at0 b1) fun (x24 : (Sl × Int × Int × Int × Int × Bool × Bool × Unit)) =>
 callT Tryz.prog 120 #[(.pointer a0), (.agg (Cells.vals c112 x24).toArray), (.pointer a2)] (.one (.one .ptr)) fun (x25 : Option Addr) =>
 K x25))
noncomputable def h156 : Hint := (hS (hR 2) (hS (.block (hS (hR 7) (hC (hS (.region [0, 1, 2, 3, 4, 5, 6, 7, 8, 9, 10, 11, 12, 13, 14, 15, 16] (hO 17)) hL) (hS (hR 7) (hC (hS (.region [0, 1, 2, 3, 4, 5, 7, 8, 9, 10, 11, 12, 13, 14, 6, 15, 16] (hO 17)) hL) hL))))) (hS (hR 5) hL)))
theorem F156_calls {a0 : Option Addr} {a1 : (Sl × Int × Int × Int × Int × Bool × Bool × Unit)} {a2 : Option Addr} {K : Option Addr → World → Prop} {w : World} (h : F156 a0 a1 a2 K w) : callT Tryz.prog 156 #[(.pointer a0), (.agg (Cells.vals c112 a1).toArray), (.pointer a2)] (.one (.one .ptr)) K w := tied tabOk Tryz.func156 h156 [(.pointer a0), (.agg (Cells.vals c112 a1).toArray), (.pointer a2)] (by kernel_rfl) h
noncomputable def F157 (a0 : Option Addr) (K : ((Sl × Int × Int × Int × Int × Bool × Bool × Unit) × Option Addr × Unit) → World → Prop) : World → Prop :=
 newO (.cells #[(.slice none 0 0), (.int .i64 (0 : Int)), (.int .i64 (0 : Int)), (.int .i64 (0 : Int)), (.int .i64 (0 : Int)), (.bool false), (.bool false)] 112) fun b1 =>
 nn a0 fun p2 =>
 ld (.ptr) p2 fun (x3 : Option Addr) =>
 sif (Option.isNone x3) (
 drew <|
 nn a0 fun p4 =>
 lds c112 (p4.add 2) fun (x5 : (Sl × Int × Int × Int × Int × Bool × Bool × Unit)) =>
 nn a0 fun p6 =>
 ld (.ptr) (p6.add 1) fun (x7 : Option Addr) =>
 aggSt (at0 b1) (.agg (Cells.vals c112 x5).toArray) 7 <|
 keep (fun w => w.cell? (p6.add 1) = some (Cell.val (.ptr) x7)) <|
 lds c112 (at0 b1) fun (x8 : (Sl × Int × Int × Int × Int × Bool × Bool × Unit)) =>
 K (x8, x7, ())) (
 nn a0 fun p9 =>
 ld (.ptr) p9 fun (x10 : Option Addr) =>
 callT Tryz.prog 157 #[(.pointer x10)] (.tup [(.agg c112), (.one .ptr)]) fun (x11 : ((Sl × Int × Int × Int × Int × Bool × Bool × Unit) × Option Addr × Unit)) =>
 newO (.cells #[(.slice none 0 0), (.int .i64 (0 : Int)), (.int .i64 (0 : Int)), (.int .i64 (0 : Int)), (.int .i64 (0 : Int)), (.bool false), (.bool false)] 112) fun b12 =>
 aggSt (at0 b12) (.agg (Cells.vals c112 x11.1).toArray) 7 <|
 drew <|
 lds c112 (at0 b12) fun (x13 : (Sl × Int × Int × Int × Int × Bool × Bool × Unit)) =>
 nn a0 fun p14 =>
 lds c112 (p14.add 2) fun (x15 : (Sl × Int × Int × Int × Int × Bool × Bool × Unit)) =>
 nn a0 fun p16 =>
 ld (.ptr) (p16.add 1) fun (x17 : Option Addr) =>
 callT Tryz.prog 164 #[(.pointer x11.2.1), (.agg (Cells.vals c112 x15).toArray), (.pointer x17)] (.one (.one .ptr)) fun (x18 : Option Addr) =>
 keep (fun w => cellsAt w (at0 b12) 0 (Cells.vals c112 x13)) <|
 aggSt (at0 b1) (.agg (Cells.vals c112 x13).toArray) 7 <|
 lds c112 (at0 b1) fun (x19 : (Sl × Int × Int × Int × Int × Bool × Bool × Unit)) =>
 K (x19, x18, ()))
noncomputable def h157 : Hint := (hS (hR 2) (hS (hS (hR 5) (hC (hS (.region [0, 1, 2, 3, 4, 5, 6, 7, 8, 9] (hO 10)) hL) hL)) (hS (hR 11) (hS (.region [0, 1, 2, 3, 4, 5, 6, 7, 8, 9, 10, 11, 12] (hO 13)) hL))))
theorem F157_calls {a0 : Option Addr} {K : ((Sl × Int × Int × Int × Int × Bool × Bool × Unit) × Option Addr × Unit) → World → Prop} {w : World} (h : F157 a0 K w) : callT Tryz.prog 157 #[(.pointer a0)] (.tup [(.agg c112), (.one .ptr)]) K w := tied tabOk Tryz.func157 h157 [(.pointer a0)] (by kernel_rfl) h
noncomputable def F164 (a0 : Option Addr) (a1 : (Sl × Int × Int × Int × Int × Bool × Bool × Unit)) (a2 : Option Addr) (K : Option Addr → World → Prop) : World → Prop :=
 newO (.cells #[(.slice a1.1.a a1.1.len a1.1.cap), (.int .i64 a1.2.1), (.int .i64 a1.2.2.1), (.int .i64 a1.2.2.2.1), (.int .i64 a1.2.2.2.2.1), (.bool a1.2.2.2.2.2.1), (.bool a1.2.2.2.2.2.2.1)] 112) fun b1 =>
 callT Tryz.prog 145 #[(.pointer a0)] (.one (.one (.int .i64))) fun (x2 : Int) =>
 callT Tryz.prog 145 #[(.pointer a2)] (.one (.one (.int .i64))) fun (x3 : Int) =>
 sif (decide (x2 > (IntKind.wrap .i64 (x3 + (1 : Int))))) (
 drew <|
 nn a0 fun p4 =>
 ld (.ptr) p4 fun (x5 : Option Addr) =>
 nn a0 fun p6 =>
 ld (.ptr) (p6.add 1) fun (x7 : Option Addr) =>
 callT Tryz.prog 145 #[(.pointer x5)] (.one (.one (.int .i64))) fun (x8 : Int) =>
 keep (fun w => w.cell? (p6.add 1) = some (Cell.val (.ptr) x7)) <|
 callT Tryz.prog 145 #[(.pointer x7)] (.one (.one (.int .i64))) fun (x9 : Int) =>
 sif (decide (x8 ≥ x9)) (
 drew <|
 nn a0 fun p10 =>
 ld (.ptr) p10 fun (x11 : Option Addr) =>
 nn a0 fun p12 =>
 lds c112 (p12.add 2) fun (x13 : (Sl × Int × Int × Int × Int × Bool × Bool × Unit)) =>
 nn a0 fun p14 =>
 ld (.ptr) (p14.add 1) fun (x15 : Option Addr) =>
 lds c112 (at0 b1) fun (x16 : (Sl × Int × Int × Int × Int × Bool × Bool × Unit)) =>
 callT Tryz.prog 120 #[(.pointer x15), (.agg (Cells.vals c112 x16).toArray), (.pointer a2)] (.one (.one .ptr)) fun (x17 : Option Addr) =>
 keep (fun w => cellsAt w (p12.add 2) 0 (Cells.vals c112 x13)) <|
 keep (fun w => w.cell? p10 = some (Cell.val (.ptr) x11)) <|
 callT Tryz.prog 120 #[(.pointer x11), (.agg (Cells.vals c112 x13).toArray), (.pointer x17)] (.one (.one .ptr)) fun (x18 : Option Addr) =>
 K x18) (
 nn a0 fun p19 =>
 ld (.ptr) (p19.add 1) fun (x20 : Option Addr) =>
 drew <|
 nn a0 fun p21 =>
 ld (.ptr) p21 fun (x22 : Option Addr) =>
 nn a0 fun p23 =>
 lds c112 (p23.add 2) fun (x24 : (Sl × Int × Int × Int × Int × Bool × Bool × Unit)) =>
 nn x20 fun p25 =>
 ld (.ptr) p25 fun (x26 : Option Addr) =>
 nn x20 fun p27 =>
 lds c112 (p27.add 2) fun (x28 : (Sl × Int × Int × Int × Int × Bool × Bool × Unit)) =>
 nn x20 fun p29 =>
 ld (.ptr) (p29.add 1) fun (x30 : Option Addr) =>
 lds c112 (at0 b1) fun (x31 : (Sl × Int × Int × Int × Int × Bool × Bool × Unit)) =>
 callT Tryz.prog 120 #[(.pointer x22), (.agg (Cells.vals c112 x24).toArray), (.pointer x26)] (.one (.one .ptr)) fun (x32 : Option Addr) =>
 keep (fun w => cellsAt w (at0 b1) 0 (Cells.vals c112 x31)) <|
 keep (fun w => w.cell? (p29.add 1) = some (Cell.val (.ptr) x30)) <|
 keep (fun w => cellsAt w (p27.add 2) 0 (Cells.vals c112 x28)) <|
 callT Tryz.prog 120 #[(.pointer x30), (.agg (Cells.vals c112 x31).toArray), (.pointer a2)] (.one (.one .ptr)) fun (x33 : Option Addr) =>
 keep (fun w => cellsAt w (p27.add 2) 0 (Cells.vals c112 x28)) <|
 callT Tryz.prog 120 #[(.pointer x32), (.agg (Cells.vals c112 x28).toArray), (.pointer x33)] (.one (.one .ptr)) fun (x34 : Option Addr) =>
 K x34)) (
 callT Tryz.prog 145 #[(.pointer a2)] (.one (.one (.int .i64))) fun (x35 : Int) =>
 callT Tryz.prog 145 #[(.pointer a0)] (.one (.one (.int .i64))) fun (x36 : Int) =>
 sif (decide (x35 > (IntKind.wrap .i64 (x36 + (1 : Int))))) (
 drew <|
 nn a2 fun p37 =>
 ld (.ptr) (p37.add 1) fun (x38 : Option Addr) =>
 nn a2 fun p39 =>
 ld (.ptr) p39 fun (x40 : Option Addr) =>
 callT Tryz.prog 145 #[(.pointer x38)] (.one (.one (.int .i64))) fun (x41 : Int) =>
 keep (fun w => w.cell? p39 = some (Cell.val (.ptr) x40)) <|
 callT Tryz.prog 145 #[(.pointer x40)] (.one (.one (.int .i64))) fun (x42 : Int) =>
 sif (decide (x41 ≥ x42)) (
 drew <|
 lds c112 (at0 b1) fun (x43 : (Sl × Int × Int × Int × Int × Bool × Bool × Unit)) =>
 nn a2 fun p44 =>
 ld (.ptr) p44 fun (x45 : Option Addr) =>
 nn a2 fun p46 =>
 lds c112 (p46.add 2) fun (x47 : (Sl × Int × Int × Int × Int × Bool × Bool × Unit)) =>
 nn a2 fun p48 =>
 ld (.ptr) (p48.add 1) fun (x49 : Option Addr) =>
 callT Tryz.prog 120 #[(.pointer a0), (.agg (Cells.vals c112 x43).toArray), (.pointer x45)] (.one (.one .ptr)) fun (x50 : Option Addr) =>
 keep (fun w => w.cell? (p48.add 1) = some (Cell.val (.ptr) x49)) <|
 keep (fun w => cellsAt w (p46.add 2) 0 (Cells.vals c112 x47)) <|
 callT Tryz.prog 120 #[(.pointer x50), (.agg (Cells.vals c112 x47).toArray), (.pointer x49)] (.one (.one .ptr)) fun (x51 : Option Addr) =>
 K x51) (
 nn a2 fun p52 =>
 ld (.ptr) p52 fun (x53 : Option Addr) =>
 drew <|
 lds c112 (at0 b1) fun (x54 : (Sl × Int × Int × Int × Int × Bool × Bool × Unit)) =>
 nn x53 fun p55 =>
 ld (.ptr) p55 fun (x56 : Option Addr) =>
 nn x53 fun p57 =>
 lds c112 (p57.add 2) fun (x58 : (Sl × Int × Int × Int × Int × Bool × Bool × Unit)) =>
 nn x53 fun p59 =>
 ld (.ptr) (p59.add 1) fun (x60 : Option Addr) =>
 nn a2 fun p61 =>
 lds c112 (p61.add 2) fun (x62 : (Sl × Int × Int × Int × Int × Bool × Bool × Unit)) =>
 nn a2 fun p63 =>
 ld (.ptr) (p63.add 1) fun (x64 : Option Addr) =>
 callT Tryz.prog 120 #[(.pointer a0), (.agg (Cells.vals c112 x54).toArray), (.pointer x56)] (.one (.one .ptr)) fun (x65 : Option Addr) =>
 keep (fun w => w.cell? (p63.add 1) = some (Cell.val (.ptr) x64)) <|
 keep (fun w => cellsAt w (p61.add 2) 0 (Cells.vals c112 x62)) <|
 keep (fun w => w.cell? (p59.add 1) = some (Cell.val (.ptr) x60)) <|
 keep (fun w => cellsAt w (p57.add 2) 0 (Cells.vals c112 x58)) <|
 callT Tryz.prog 120 #[(.pointer x60), (.agg (Cells.vals c112 x62).toArray), (.pointer x64)] (.one (.one .ptr)) fun (x66 : Option Addr) =>
 keep (fun w => cellsAt w (p57.add 2) 0 (Cells.vals c112 x58)) <|
 callT Tryz.prog 120 #[(.pointer x65), (.agg (Cells.vals c112 x58).toArray), (.pointer x66)] (.one (.one .ptr)) fun (x67 : Option Addr) =>
 K x67)) (
 lds c112 (at0 b1) fun (x68 : (Sl × Int × Int × Int × Int × Bool × Bool × Unit)) =>
 callT Tryz.prog 120 #[(.pointer a0), (.agg (Cells.vals c112 x68).toArray), (.pointer a2)] (.one (.one .ptr)) fun (x69 : Option Addr) =>
 K x69))
noncomputable def h164 : Hint := (hS (hR 2) (hS (.block (hS (hR 7) (hC (hS (hS (.region [0, 1, 2, 3, 5, 6, 7, 8, 4, 9, 10] (hO 11)) (hC (hS (.region [0, 1, 2, 3, 4, 5, 6, 7, 8, 9, 10, 11, 12, 13, 14, 15, 16] (hO 17)) hL) hL)) (hS (hR 5) (hS (.region [0, 1, 2, 3, 4, 5, 6, 7, 8, 9, 10, 11, 13, 14, 15, 16, 17, 18, 19, 20, 21, 22, 12, 23, 24, 25] (hO 26)) hL))) (hS (hR 7) (hC (hS (hS (.region [0, 1, 2, 3, 5, 6, 7, 8, 4, 9, 10] (hO 11)) (hC (hS (.region [0, 1, 2, 3, 4, 5, 7, 8, 9, 10, 11, 12, 13, 14, 6, 15, 16] (hO 17)) hL) hL)) (hS (hR 5) (hS (.region [0, 1, 2, 3, 4, 5, 7, 8, 9, 10, 11, 12, 13, 14, 15, 16, 17, 18, 19, 20, 21, 22, 6, 23, 24, 25] (hO 26)) hL))) hL))))) (hS (hR 5) hL)))
theorem F164_calls {a0 : Option Addr} {a1 : (Sl × Int × Int × Int × Int × Bool × Bool × Unit)} {a2 : Option Addr} {K : Option Addr → World → Prop} {w : World} (h : F164 a0 a1 a2 K w) : callT Tryz.prog 164 #[(.pointer a0), (.agg (Cells.vals c112 a1).toArray), (.pointer a2)] (.one (.one .ptr)) K w := tied tabOk Tryz.func164 h164 [(.pointer a0), (.agg (Cells.vals c112 a1).toArray), (.pointer a2)] (by kernel_rfl) h
noncomputable def F192 (a0 : (Int × Int × Int × Bool × Bool × Unit)) (a1 : Int) (K : Int → World → Prop) : World → Prop :=
 newO (.cells #[(.int .i64 a0.1), (.int .i64 a0.2.1), (.int .i64 a0.2.2.1), (.bool a0.2.2.2.1), (.bool a0.2.2.2.2.1)] 110) fun b1 =>
 sif (a1 == (0 : Int)) (
 ld (.int .i64) (at0 b1) fun (x2 : Int) =>
 K x2) (
 sif (a1 == (1 : Int)) (
 ld (.int .i64) (⟨b1, 2, none⟩ : Addr) fun (x3 : Int) =>
 K x3) (
 K (0 : Int)))
noncomputable def h192 : Hint := (hS (hR 2) (hS (hS (hR 1) (.block (hS (hR 2) (hC (hS (hR 3) hL) (hS (hR 2) (hC (hS (hR 3) hL) hL)))))) (hS (hR 1) hL)))
theorem F192_calls {a0 : (Int × Int × Int × Bool × Bool × Unit)} {a1 : Int} {K : Int → World → Prop} {w : World} (h : F192 a0 a1 K w) : callT Tryz.prog 192 #[(.agg (Cells.vals c110 a0).toArray), (.int .i64 a1)] (.one (.one (.int .i64))) K w := tied tabOk Tryz.func192 h192 [(.agg (Cells.vals c110 a0).toArray), (.int .i64 a1)] (by kernel_rfl) h
noncomputable def F193 (a0 : (Sl × Int × Int × Int × Int × Bool × Bool × Unit)) (K : (Int × Int × Int × Bool × Bool × Unit) → World → Prop) : World → Prop :=
 newO (.cells #[(.slice a0.1.a a0.1.len a0.1.cap), (.int .i64 a0.2.1), (.int .i64 a0.2.2.1), (.int .i64 a0.2.2.2.1), (.int .i64 a0.2.2.2.2.1), (.bool a0.2.2.2.2.2.1), (.bool a0.2.2.2.2.2.2.1)] 112) fun b1 =>
 newO (.cells #[(.int .i64 (0 : Int)), (.int .i64 (0 : Int)), (.int .i64 (0 : Int)), (.bool false), (.bool false)] 110) fun b2 =>
 lds c110 (⟨b1, 2, none⟩ : Addr) fun (x3 : (Int × Int × Int × Bool × Bool × Unit)) =>
 aggSt (at0 b2) (.agg (Cells.vals c110 x3).toArray) 5 <|
 lds c110 (at0 b2) fun (x4 : (Int × Int × Int × Bool × Bool × Unit)) =>
 K x4
noncomputable def h193 : Hint := (hS (hR 2) (hS (hR 3) hL))
theorem F193_calls {a0 : (Sl × Int × Int × Int × Int × Bool × Bool × Unit)} {K : (Int × Int × Int × Bool × Bool × Unit) → World → Prop} {w : World} (h : F193 a0 K w) : callT Tryz.prog 193 #[(.agg (Cells.vals c112 a0).toArray)] (.one (.agg c110)) K w := tied tabOk Tryz.func193 h193 [(.agg (Cells.vals c112 a0).toArray)] (by kernel_rfl) h
noncomputable def F194 (a0 : (Unit)) (a1 : Sl) (K : (Int × Int × Unit) → World → Prop) : World → Prop :=
 newO (.cells #[] 163) fun b1 =>
 callT Tryz.prog 199 #[(.slice a1.a a1.len a1.cap)] (.tup [(.one (.int .i64)), (.one (.int .i64))]) fun (x2 : (Int × Int × Unit)) =>
 join (S := Bool × Unit) (fun J3 =>
 sif (x2.2.1 == (0 : Int)) (
 J3 (true, ())) (
 J3 ((decide (x2.1 < x2.2.1)), ()))) fun (s4 : Bool × Unit) =>
 sif s4.1 (
 ix a1.a a1.len (0 : Int) fun p5 =>
 ld (.int .u8) (p5.add (scaled (Int.toNat (0 : Int)) 1)) fun (x6 : Int) =>
 K ((IntKind.wrap .i64 ((-1 : Int) - (IntKind.wrap .i64 x6))), (1 : Int), ())) (
 ix a1.a a1.len (0 : Int) fun p7 =>
 ld (.int .u8) (p7.add (scaled (Int.toNat (0 : Int)) 1)) fun (x8 : Int) =>
 join (S := Int × Unit) (fun J9 =>
 sif (x2.2.1 == (2 : Int)) (
 J9 ((IntKind.wrap .i64 ((BitVec.toNat (BitVec.ofInt (IntKind.bits .i64) (IntKind.wrap .i64 x8) &&& BitVec.ofInt (IntKind.bits .i64) (31 : Int)) : Nat) : Int)), ())) (
 sif (x2.2.1 == (3 : Int)) (
 J9 ((IntKind.wrap .i64 ((BitVec.toNat (BitVec.ofInt (IntKind.bits .i64) (IntKind.wrap .i64 x8) &&& BitVec.ofInt (IntKind.bits .i64) (15 : Int)) : Nat) : Int)), ())) (
 sif (x2.2.1 == (4 : Int)) (
 J9 ((IntKind.wrap .i64 ((BitVec.toNat (BitVec.ofInt (IntKind.bits .i64) (IntKind.wrap .i64 x8) &&& BitVec.ofInt (IntKind.bits .i64) (7 : Int)) : Nat) : Int)), ())) (
 J9 ((IntKind.wrap .i64 x8), ()))))) fun (s10 : Int × Unit) =>
 join (S := Int × Unit) (fun J11 =>
 slc a1.a (1 : Int) x2.2.1 ((a1.cap : Nat) : Int) a1.cap 1 fun x13 =>
 sloop (S := Int × Int × Unit) (fun (s14 : Int × Int × Unit) again15 =>
 sif (decide (s14.2.1 < ((x13.len : Nat) : Int))) (
 ix x13.a x13.len s14.2.1 fun p16 =>
 ld (.int .u8) (p16.add (scaled (Int.toNat s14.2.1) 1)) fun (x17 : Int) =>
 chk (0 ≤ (6 : Int)) <|
 again15 ((IntKind.wrap .i64 ((BitVec.toNat (BitVec.ofInt (IntKind.bits .i64) (IntKind.wrap .i64 (s14.1 * 2 ^ (min (Int.toNat (6 : Int)) (IntKind.bits .i64)))) ||| BitVec.ofInt (IntKind.bits .i64) (IntKind.wrap .i64 (IntKind.wrap .u8 ((BitVec.toNat (BitVec.ofInt (IntKind.bits .u8) x17 &&& BitVec.ofInt (IntKind.bits .u8) (63 : Int)) : Nat) : Int)))) : Nat) : Int)), (IntKind.wrap .i64 (s14.2.1 + (1 : Int))), ())) (
 J11 (s14.1, ()))) (s10.1, (0 : Int), ())) fun (s12 : Int × Unit) =>
 K (s12.1, x2.2.1, ()))
noncomputable def h194 : Hint := (hS (hR 3) (hS (hR 7) (hS (hJ (8323072, [(22, tB)]) (.region [] (.ops 3 (.split 18 (.skips 3 (hO 1)) (hO 4)))) (hC (hS (hR 7) hL) hL)) (hS (hR 5) (hJ (35180077121792, [(8, tI)]) (hS (hR 1) (.block (hS (hR 2) (hC (hR 3) (hS (hR 2) (hC (hR 3) (hS (hR 2) (hC (hR 3) hL)))))))) (hJ (1152886320234759424, [(8, tI)]) (hS (hR 5) (.block (.loop 1152358554653426944 [(8, tI), (49, tI)] (hS (hR 1) (hS (hC hL hL) (hS (.block (hS (hR 3) (hR 7))) (hR 2))))))) (hS (hR 4) hL)))))))
theorem F194_calls {a0 : (Unit)} {a1 : Sl} {K : (Int × Int × Unit) → World → Prop} {w : World} (h : F194 a0 a1 K w) : callT Tryz.prog 194 #[(.agg (Cells.vals c163 a0).toArray), (.slice a1.a a1.len a1.cap)] (.tup [(.one (.int .i64)), (.one (.int .i64))]) K w := tied tabOk Tryz.func194 h194 [(.agg (Cells.vals c163 a0).toArray), (.slice a1.a a1.len a1.cap)] (by kernel_rfl) h
noncomputable def F197 (a0 : (Unit)) (a1 : Sl) (a2 : Int) (K : Sl → World → Prop) : World → Prop :=
 newO (.cells #[] 163) fun b1 =>
 lds c163 (at0 b1) fun (x2 : (Unit)) =>
 callT Tryz.prog 198 #[(.agg (Cells.vals c163 x2).toArray), (.int .i64 a2)] (.one (.one (.int .i64))) fun (x3 : Int) =>
 sif (decide (a2 < (0 : Int))) (
 newO (.cells #[(.int .u8 (IntKind.wrap .u8 (IntKind.wrap .i64 ((-1 : Int) - a2))))] 5) fun b4 =>
 rawT Tryz.prog (.one (.one .sl)) (Builtin.append_ #[22, 22] 22 #[(.slice a1.a a1.len a1.cap), (.slice (some (at0 b4)) 1 1)]) fun (x5 : Sl) =>
 K x5) (
 sif (x3 == (1 : Int)) (
 newO (.cells #[(.int .u8 (IntKind.wrap .u8 a2))] 5) fun b6 =>
 rawT Tryz.prog (.one (.one .sl)) (Builtin.append_ #[22, 22] 22 #[(.slice a1.a a1.len a1.cap), (.slice (some (at0 b6)) 1 1)]) fun (x7 : Sl) =>
 K x7) (
 newO (.cells #[(.int .u8 (0 : Int)), (.int .u8 (0 : Int)), (.int .u8 (0 : Int)), (.int .u8 (0 : Int)), (.int .u8 (0 : Int))] 224) fun b8 =>
 aggSt (at0 b8) (.agg #[(.int .u8 (0 : Int)), (.int .u8 (0 : Int)), (.int .u8 (192 : Int)), (.int .u8 (224 : Int)), (.int .u8 (240 : Int))]) 5 <|
 drew <|
 chk (0 ≤ x3 ∧ x3 < ((5 : Nat) : Int)) <|
 ld (.int .u8) ((at0 b8).add (scaled (Int.toNat x3) 1)) fun (x9 : Int) =>
 chk (0 ≤ (IntKind.wrap .i64 ((6 : Int) * (IntKind.wrap .i64 (x3 - (1 : Int)))))) <|
 newO (.cells #[(.int .u8 (IntKind.wrap .u8 ((BitVec.toNat (BitVec.ofInt (IntKind.bits .u8) x9 ||| BitVec.ofInt (IntKind.bits .u8) (IntKind.wrap .u8 (Int.fdiv a2 (2 ^ (min (Int.toNat (IntKind.wrap .i64 ((6 : Int) * (IntKind.wrap .i64 (x3 - (1 : Int)))))) (IntKind.bits .i64)))))) : Nat) : Int)))] 5) fun b10 =>
 rawT Tryz.prog (.one (.one .sl)) (Builtin.append_ #[22, 22] 22 #[(.slice a1.a a1.len a1.cap), (.slice (some (at0 b10)) 1 1)]) fun (x11 : Sl) =>
 join (S := Sl × Unit) (fun J12 =>
 sloop (S := Sl × Int × Unit) (fun (s14 : Sl × Int × Unit) again15 =>
 sif (decide (s14.2.1 ≥ (0 : Int))) (
 chk (0 ≤ (IntKind.wrap .i64 ((6 : Int) * s14.2.1))) <|
 newO (.cells #[(.int .u8 (IntKind.wrap .u8 ((BitVec.toNat (BitVec.ofInt (IntKind.bits .u8) (128 : Int) ||| BitVec.ofInt (IntKind.bits .u8) (IntKind.wrap .u8 ((BitVec.toNat (BitVec.ofInt (IntKind.bits .u8) (IntKind.wrap .u8 (Int.fdiv a2 (2 ^ (min (Int.toNat (IntKind.wrap .i64 ((6 : Int) * s14.2.1))) (IntKind.bits .i64))))) &&& BitVec.ofInt (IntKind.bits .u8) (63 : Int)) : Nat) : Int))) : Nat) : Int)))] 5) fun b16 =>
 rawT Tryz.prog (.one (.one .sl)) (Builtin.append_ #[22, 22] 22 #[(.slice s14.1.a s14.1.len s14.1.cap), (.slice (some (at0 b16)) 1 1)]) fun (x17 : Sl) =>
 again15 (x17, (IntKind.wrap .i64 (s14.2.1 - (1 : Int))), ())) (
 J12 (s14.1, ()))) (x11, (IntKind.wrap .i64 (x3 - (2 : Int))), ())) fun (s13 : Sl × Unit) =>
 K s13.1))
noncomputable def h197 : Hint := (hS (hR 2) (hS (hR 4) (hS (hS (hR 2) (hC (hS (hR 7) hL) hL)) (hS (hS (hR 2) (hC (hS (hR 6) hL) hL)) (hS (hR 3) (hS (.region [0, 1, 2, 3, 4, 5, 6, 7, 8, 9, 10, 11, 12, 13] (hO 14)) (hJ (288225978105201154, [(1, tS)]) (hS (hR 3) (.block (.loop 288212783965667842 [(1, tS), (9, tI)] (hS (hS (hR 2) (hC hL hL)) (hS (.block (hR 11)) (hR 3)))))) (hS (hR 2) hL))))))))
theorem F197_calls {a0 : (Unit)} {a1 : Sl} {a2 : Int} {K : Sl → World → Prop} {w : World} (h : F197 a0 a1 a2 K w) : callT Tryz.prog 197 #[(.agg (Cells.vals c163 a0).toArray), (.slice a1.a a1.len a1.cap), (.int .i64 a2)] (.one (.one .sl)) K w := tied tabOk Tryz.func197 h197 [(.agg (Cells.vals c163 a0).toArray), (.slice a1.a a1.len a1.cap), (.int .i64 a2)] (by kernel_rfl) h
noncomputable def F198 (a0 : (Unit)) (a1 : Int) (K : Int → World → Prop) : World → Prop :=
 newO (.cells #[] 163) fun b1 =>
 join (S := Bool × Unit) (fun J2 =>
 sif (decide (a1 < (-256 : Int))) (
 J2 (true, ())) (
 sif (decide (a1 > (-129 : Int))) (
 sif (decide (a1 < (0 : Int))) (
 J2 (true, ())) (
 sif (decide (a1 > (1114111 : Int))) (
 J2 (true, ())) (
 sif (decide (a1 ≥ (55296 : Int))) (
 J2 ((decide (a1 ≤ (57343 : Int))), ())) (
 J2 (false, ()))))) (
 sif (decide (a1 > (1114111 : Int))) (
 J2 (true, ())) (
 sif (decide (a1 ≥ (55296 : Int))) (
 J2 ((decide (a1 ≤ (57343 : Int))), ())) (
 J2 (false, ())))))) fun (s3 : Bool × Unit) =>
 sif s3.1 (
 K (0 : Int)) (
 sif (decide (a1 < (128 : Int))) (
 K (1 : Int)) (
 sif (decide (a1 < (2048 : Int))) (
 K (2 : Int)) (
 sif (decide (a1 < (65536 : Int))) (
 K (3 : Int)) (
 K (4 : Int)))))
noncomputable def h198 : Hint := (hS (hR 2) (hS (.block (hJ (268435424, [(5, tB)]) (.region [] (.ops 3 (.split 8 (.skips 6 (.ops 2 (.skips 2 (.ops 2 (.skips 6 (hO 2)))))) (.ops 3 (.split 11 (.ops 5 (.split 16 (.skips 2 (.ops 2 (.skips 6 (hO 2)))) (.ops 4 (.split 20 (.skips 6 (hO 2)) (.ops 3 (.split 23 (hO 5) (.skips 2 (hO 3)))))))) (.skips 2 (.ops 7 (.split 20 (.skips 6 (hO 2)) (.ops 3 (.split 23 (hO 5) (.skips 2 (hO 3)))))))))))) (hC (hS (hR 1) hL) (hS (hR 3) (hC (hS (hR 1) hL) (hS (hR 3) (hC (hS (hR 1) hL) (hS (hR 3) (hC (hS (hR 1) hL) hL))))))))) (hS (hR 1) hL)))
theorem F198_calls {a0 : (Unit)} {a1 : Int} {K : Int → World → Prop} {w : World} (h : F198 a0 a1 K w) : callT Tryz.prog 198 #[(.agg (Cells.vals c163 a0).toArray), (.int .i64 a1)] (.one (.one (.int .i64))) K w := tied tabOk Tryz.func198 h198 [(.agg (Cells.vals c163 a0).toArray), (.int .i64 a1)] (by kernel_rfl) h
noncomputable def F199 (a0 : Sl) (K : (Int × Int × Unit) → World → Prop) : World → Prop :=
 ix a0.a a0.len (0 : Int) fun p1 =>
 ld (.int .u8) (p1.add (scaled (Int.toNat (0 : Int)) 1)) fun (x2 : Int) =>
 callT Tryz.prog 200 #[(.int .u8 x2)] (.tup [(.one (.int .i64)), (.one (.int .u8)), (.one (.int .u8))]) fun (x3 : (Int × Int × Int × Unit)) =>
 sif (decide (x3.1 < (2 : Int))) (
 K (x3.1, x3.1, ())) (
 join (S := Bool × Unit) (fun J4 =>
 sif (decide (((a0.len : Nat) : Int) < (2 : Int))) (
 J4 (true, ())) (
 ix a0.a a0.len (1 : Int) fun p6 =>
 ld (.int .u8) (p6.add (scaled (Int.toNat (1 : Int)) 1)) fun (x7 : Int) =>
 sif (decide (x7 < x3.2.1)) (
 J4 (true, ())) (
 ix a0.a a0.len (1 : Int) fun p8 =>
 ld (.int .u8) (p8.add (scaled (Int.toNat (1 : Int)) 1)) fun (x9 : Int) =>
 J4 ((decide (x9 > x3.2.2.1)), ())))) fun (s5 : Bool × Unit) =>
 sif s5.1 (
 K ((1 : Int), x3.1, ())) (
 join (S := Int × Unit) (fun J10 =>
 sloop (S := Int × Unit) (fun (s12 : Int × Unit) again13 =>
 join (S := Bool × Unit) (fun J14 =>
 sif (decide (s12.1 < x3.1)) (
 sif (decide (s12.1 < ((a0.len : Nat) : Int))) (
 ix a0.a a0.len s12.1 fun p16 =>
 ld (.int .u8) (p16.add (scaled (Int.toNat s12.1) 1)) fun (x17 : Int) =>
 J14 (((IntKind.wrap .u8 ((BitVec.toNat (BitVec.ofInt (IntKind.bits .u8) x17 &&& BitVec.ofInt (IntKind.bits .u8) (192 : Int)) : Nat) : Int)) == (128 : Int)), ())) (
 J14 (false, ()))) (
 J14 (false, ()))) fun (s15 : Bool × Unit) =>
 sif s15.1 (
 again13 ((IntKind.wrap .i64 (s12.1 + (1 : Int))), ())) (
 J10 (s12.1, ()))) ((2 : Int), ())) fun (s11 : Int × Unit) =>
 K (s11.1, x3.1, ())))
noncomputable def h199 : Hint := (hS (hR 2) (hS (hR 11) (hS (hS (hR 2) (hC (hS (hR 4) hL) hL)) (hS (hJ (137437904896, [(36, tB)]) (.region [] (.ops 4 (.split 23 (.skips 5 (.ops 2 (.skips 5 (hO 1)))) (.ops 7 (.split 30 (.skips 5 (hO 1)) (hO 6)))))) (hC (hS (hR 3) hL) hL)) (hS (hR 1) (hJ (144114913197949056, [(7, tI)]) (.block (.loop 144114913197949056 [(7, tI)] (hS (hJ (36028522141057024, [(54, tB)]) (.region [] (.ops 4 (.split 41 (.ops 6 (.split 47 (hO 7) (.skips 6 (hO 1)))) (.skips 4 (.ops 2 (.skips 6 (hO 1))))))) (hC hL hL)) (.block (hR 3))))) (hS (hR 4) hL)))))))
theorem F199_calls {a0 : Sl} {K : (Int × Int × Unit) → World → Prop} {w : World} (h : F199 a0 K w) : callT Tryz.prog 199 #[(.slice a0.a a0.len a0.cap)] (.tup [(.one (.int .i64)), (.one (.int .i64))]) K w := tied tabOk Tryz.func199 h199 [(.slice a0.a a0.len a0.cap)] (by kernel_rfl) h
noncomputable def F200 (a0 : Int) (K : (Int × Int × Int × Unit) → World → Prop) : World → Prop :=
 sif (decide (a0 < (128 : Int))) (
 K ((1 : Int), (0 : Int), (0 : Int), ())) (
 sif (decide (a0 < (194 : Int))) (
 K ((0 : Int), (0 : Int), (0 : Int), ())) (
 sif (decide (a0 < (224 : Int))) (
 K ((2 : Int), (128 : Int), (191 : Int), ())) (
 sif (a0 == (224 : Int)) (
 K ((3 : Int), (160 : Int), (191 : Int), ())) (
 sif (a0 == (237 : Int)) (
 K ((3 : Int), (128 : Int), (159 : Int), ())) (
 sif (decide (a0 < (240 : Int))) (
 K ((3 : Int), (128 : Int), (191 : Int), ())) (
 sif (a0 == (240 : Int)) (
 K ((4 : Int), (144 : Int), (191 : Int), ())) (
 sif (decide (a0 < (244 : Int))) (
 K ((4 : Int), (128 : Int), (191 : Int), ())) (
 sif (a0 == (244 : Int)) (
 K ((4 : Int), (128 : Int), (143 : Int), ())) (
 K ((0 : Int), (0 : Int), (0 : Int), ()))))))))))
noncomputable def h200 : Hint := (hS (hR 3) (hS (.block (hS (hR 3) (hC (hS (hR 3) hL) (hS (hR 3) (hC (hS (hR 3) hL) (hS (hR 3) (hC (hS (hR 3) hL) (hS (hR 3) (hC (hS (hR 3) hL) (hS (hR 3) (hC (hS (hR 3) hL) (hS (hR 3) (hC (hS (hR 3) hL) (hS (hR 3) (hC (hS (hR 3) hL) (hS (hR 3) (hC (hS (hR 3) hL) (hS (hR 3) (hC (hS (hR 3) hL) hL))))))))))))))))))) (hS (hR 3) hL)))
theorem F200_calls {a0 : Int} {K : (Int × Int × Int × Unit) → World → Prop} {w : World} (h : F200 a0 K w) : callT Tryz.prog 200 #[(.int .u8 a0)] (.tup [(.one (.int .i64)), (.one (.int .u8)), (.one (.int .u8))]) K w := tied tabOk Tryz.func200 h200 [(.int .u8 a0)] (by kernel_rfl) h
noncomputable def F201 (a0 : (Int × Unit)) (a1 : Sl) (K : (Int × Int × Unit) → World → Prop) : World → Prop :=
 newO (.cells #[(.int .i64 a0.1)] 165) fun b1 =>
 sif (((a1.len : Nat) : Int) == (1 : Int)) (
 ix a1.a a1.len (0 : Int) fun p2 =>
 ld (.int .u8) (p2.add (scaled (Int.toNat (0 : Int)) 1)) fun (x3 : Int) =>
 K ((IntKind.wrap .i64 ((-1 : Int) - (IntKind.wrap .i64 x3))), (1 : Int), ())) (
 lds c165 (at0 b1) fun (x4 : (Int × Unit)) =>
 callT Tryz.prog 206 #[(.agg (Cells.vals c165 x4).toArray), (.slice a1.a a1.len a1.cap)] (.one (.one (.int .i64))) fun (x5 : Int) =>
 join (S := Unit) (fun J6 =>
 join (S := Bool × Unit) (fun J8 =>
 callT Tryz.prog 207 #[(.int .i64 x5)] (.one (.one .bool)) fun (x10 : Bool) =>
 sif x10 (
 J8 ((decide (((a1.len : Nat) : Int) ≥ (4 : Int))), ())) (
 J8 (false, ()))) fun (s9 : Bool × Unit) =>
 sif s9.1 (
 drew <|
 lds c165 (at0 b1) fun (x11 : (Int × Unit)) =>
 slc a1.a (2 : Int) ((a1.len : Nat) : Int) ((a1.cap : Nat) : Int) a1.cap 1 fun x12 =>
 callT Tryz.prog 206 #[(.agg (Cells.vals c165 x11).toArray), (.slice x12.a x12.len x12.cap)] (.one (.one (.int .i64))) fun (x13 : Int) =>
 callT Tryz.prog 208 #[(.int .i64 x13)] (.one (.one .bool)) fun (x14 : Bool) =>
 sif x14 (
 chk (0 ≤ (10 : Int)) <|
 K ((IntKind.wrap .i64 ((IntKind.wrap .i64 ((65536 : Int) + (IntKind.wrap .i64 ((IntKind.wrap .i64 ((BitVec.toNat (BitVec.ofInt (IntKind.bits .i64) x5 &&& BitVec.ofInt (IntKind.bits .i64) (1023 : Int)) : Nat) : Int)) * 2 ^ (min (Int.toNat (10 : Int)) (IntKind.bits .i64)))))) + (IntKind.wrap .i64 ((BitVec.toNat (BitVec.ofInt (IntKind.bits .i64) x13 &&& BitVec.ofInt (IntKind.bits .i64) (1023 : Int)) : Nat) : Int)))), (4 : Int), ())) (
 J6 ())) (
 J6 ())) fun (s7 : Unit) =>
 K (x5, (2 : Int), ()))
noncomputable def h201 : Hint := (hS (hR 3) (hS (hS (hR 3) (hC (hS (hR 7) hL) hL)) (hS (hR 4) (hJ (549755289776, []) (hJ (66584576, [(25, tB)]) (.region [] (.ops 3 (.split 21 (hO 4) (.skips 3 (hO 1))))) (hC (hS (.region [0, 1, 2, 3, 4] (hO 5)) (hS (hR 2) (hC (hS (hR 9) hL) hL))) hL)) (hS (hR 3) hL)))))
theorem F201_calls {a0 : (Int × Unit)} {a1 : Sl} {K : (Int × Int × Unit) → World → Prop} {w : World} (h : F201 a0 a1 K w) : callT Tryz.prog 201 #[(.agg (Cells.vals c165 a0).toArray), (.slice a1.a a1.len a1.cap)] (.tup [(.one (.int .i64)), (.one (.int .i64))]) K w := tied tabOk Tryz.func201 h201 [(.agg (Cells.vals c165 a0).toArray), (.slice a1.a a1.len a1.cap)] (by kernel_rfl) h
noncomputable def F204 (a0 : (Int × Unit)) (a1 : Sl) (a2 : Int) (K : Sl → World → Prop) : World → Prop :=
 newO (.cells #[(.int .i64 a0.1)] 165) fun b1 =>
 sif (decide (a2 < (0 : Int))) (
 newO (.cells #[(.int .u8 (IntKind.wrap .u8 (IntKind.wrap .i64 ((-1 : Int) - a2))))] 5) fun b2 =>
 rawT Tryz.prog (.one (.one .sl)) (Builtin.append_ #[22, 22] 22 #[(.slice a1.a a1.len a1.cap), (.slice (some (at0 b2)) 1 1)]) fun (x3 : Sl) =>
 K x3) (
 sif (decide (a2 < (65536 : Int))) (
 lds c165 (at0 b1) fun (x4 : (Int × Unit)) =>
 callT Tryz.prog 209 #[(.agg (Cells.vals c165 x4).toArray), (.slice a1.a a1.len a1.cap), (.int .i64 a2)] (.one (.one .sl)) fun (x5 : Sl) =>
 K x5) (
 drew <|
 lds c165 (at0 b1) fun (x6 : (Int × Unit)) =>
 lds c165 (at0 b1) fun (x7 : (Int × Unit)) =>
 chk (0 ≤ (10 : Int)) <|
 callT Tryz.prog 209 #[(.agg (Cells.vals c165 x7).toArray), (.slice a1.a a1.len a1.cap), (.int .i64 (IntKind.wrap .i64 ((BitVec.toNat (BitVec.ofInt (IntKind.bits .i64) (55296 : Int) ||| BitVec.ofInt (IntKind.bits .i64) (Int.fdiv (IntKind.wrap .i64 (a2 - (65536 : Int))) (2 ^ (min (Int.toNat (10 : Int)) (IntKind.bits .i64))))) : Nat) : Int)))] (.one (.one .sl)) fun (x8 : Sl) =>
 keep (fun w => cellsAt w (at0 b1) 0 (Cells.vals c165 x6)) <|
 callT Tryz.prog 209 #[(.agg (Cells.vals c165 x6).toArray), (.slice x8.a x8.len x8.cap), (.int .i64 (IntKind.wrap .i64 ((BitVec.toNat (BitVec.ofInt (IntKind.bits .i64) (56320 : Int) ||| BitVec.ofInt (IntKind.bits .i64) (IntKind.wrap .i64 ((BitVec.toNat (BitVec.ofInt (IntKind.bits .i64) a2 &&& BitVec.ofInt (IntKind.bits .i64) (1023 : Int)) : Nat) : Int))) : Nat) : Int)))] (.one (.one .sl)) fun (x9 : Sl) =>
 K x9))
noncomputable def h204 : Hint := (hS (hR 2) (hS (.block (hS (hR 3) (hC (hS (hR 7) hL) (hS (hR 3) (hC (hS (hR 5) hL) hL))))) (hS (.region [0, 1, 2, 3, 4, 5, 6, 8, 9, 10, 7, 11, 12] (hO 13)) hL)))
theorem F204_calls {a0 : (Int × Unit)} {a1 : Sl} {a2 : Int} {K : Sl → World → Prop} {w : World} (h : F204 a0 a1 a2 K w) : callT Tryz.prog 204 #[(.agg (Cells.vals c165 a0).toArray), (.slice a1.a a1.len a1.cap), (.int .i64 a2)] (.one (.one .sl)) K w := tied tabOk Tryz.func204 h204 [(.agg (Cells.vals c165 a0).toArray), (.slice a1.a a1.len a1.cap), (.int .i64 a2)] (by kernel_rfl) h
noncomputable def F205 (a0 : (Int × Unit)) (a1 : Int) (K : Int → World → Prop) : World → Prop :=
 newO (.cells #[(.int .i64 a0.1)] 165) fun b1 =>
 join (S := Bool × Unit) (fun J2 =>
 sif (decide (a1 < (-256 : Int))) (
 J2 (true, ())) (
 J2 ((decide (a1 > (1114111 : Int))), ()))) fun (s3 : Bool × Unit) =>
 sif s3.1 (
 K (0 : Int)) (
 sif (decide (a1 < (0 : Int))) (
 K (1 : Int)) (
 sif (decide (a1 < (65536 : Int))) (
 K (2 : Int)) (
 K (4 : Int))))
noncomputable def h205 : Hint := (hS (hR 2) (hS (.block (hJ (4064, [(5, tB)]) (.region [] (.ops 3 (.split 8 (.skips 2 (hO 2)) (hO 4)))) (hC (hS (hR 1) hL) (hS (hR 3) (hC (hS (hR 1) hL) (hS (hR 3) (hC (hS (hR 1) hL) hL))))))) (hS (hR 1) hL)))
theorem F205_calls {a0 : (Int × Unit)} {a1 : Int} {K : Int → World → Prop} {w : World} (h : F205 a0 a1 K w) : callT Tryz.prog 205 #[(.agg (Cells.vals c165 a0).toArray), (.int .i64 a1)] (.one (.one (.int .i64))) K w := tied tabOk Tryz.func205 h205 [(.agg (Cells.vals c165 a0).toArray), (.int .i64 a1)] (by kernel_rfl) h
noncomputable def F206 (a0 : (Int × Unit)) (a1 : Sl) (K : Int → World → Prop) : World → Prop :=
 newO (.cells #[(.int .i64 a0.1)] 165) fun b1 =>
 drew <|
 ld (.int .i64) (at0 b1) fun (x2 : Int) =>
 ix a1.a a1.len x2 fun p3 =>
 ld (.int .u8) (p3.add (scaled (Int.toNat x2) 1)) fun (x4 : Int) =>
 ld (.int .i64) (at0 b1) fun (x5 : Int) =>
 ix a1.a a1.len (IntKind.wrap .i64 ((1 : Int) - x5)) fun p6 =>
 ld (.int .u8) (p6.add (scaled (Int.toNat (IntKind.wrap .i64 ((1 : Int) - x5))) 1)) fun (x7 : Int) =>
 chk (0 ≤ (8 : Int)) <|
 K (IntKind.wrap .i64 ((BitVec.toNat (BitVec.ofInt (IntKind.bits .i64) (IntKind.wrap .i64 x4) ||| BitVec.ofInt (IntKind.bits .i64) (IntKind.wrap .i64 ((IntKind.wrap .i64 x7) * 2 ^ (min (Int.toNat (8 : Int)) (IntKind.bits .i64))))) : Nat) : Int))
noncomputable def h206 : Hint := (hS (hR 2) (hS (.region [0, 1, 2, 3, 4, 5, 6, 7, 8, 9, 10, 11, 12, 13, 14, 15] (hO 16)) hL))
theorem F206_calls {a0 : (Int × Unit)} {a1 : Sl} {K : Int → World → Prop} {w : World} (h : F206 a0 a1 K w) : callT Tryz.prog 206 #[(.agg (Cells.vals c165 a0).toArray), (.slice a1.a a1.len a1.cap)] (.one (.one (.int .i64))) K w := tied tabOk Tryz.func206 h206 [(.agg (Cells.vals c165 a0).toArray), (.slice a1.a a1.len a1.cap)] (by kernel_rfl) h
noncomputable def F207 (a0 : Int) (K : Bool → World → Prop) : World → Prop :=
 K ((IntKind.wrap .i64 ((BitVec.toNat (BitVec.ofInt (IntKind.bits .i64) a0 &&& ~~~(BitVec.ofInt (IntKind.bits .i64) (1023 : Int))) : Nat) : Int)) == (55296 : Int))
noncomputable def h207 : Hint := (hS (hR 1) (hS (hR 4) hL))
theorem F207_calls {a0 : Int} {K : Bool → World → Prop} {w : World} (h : F207 a0 K w) : callT Tryz.prog 207 #[(.int .i64 a0)] (.one (.one .bool)) K w := tied tabOk Tryz.func207 h207 [(.int .i64 a0)] (by kernel_rfl) h
noncomputable def F208 (a0 : Int) (K : Bool → World → Prop) : World → Prop :=
 K ((IntKind.wrap .i64 ((BitVec.toNat (BitVec.ofInt (IntKind.bits .i64) a0 &&& ~~~(BitVec.ofInt (IntKind.bits .i64) (1023 : Int))) : Nat) : Int)) == (56320 : Int))
noncomputable def h208 : Hint := (hS (hR 1) (hS (hR 4) hL))
theorem F208_calls {a0 : Int} {K : Bool → World → Prop} {w : World} (h : F208 a0 K w) : callT Tryz.prog 208 #[(.int .i64 a0)] (.one (.one .bool)) K w := tied tabOk Tryz.func208 h208 [(.int .i64 a0)] (by kernel_rfl) h
noncomputable def F209 (a0 : (Int × Unit)) (a1 : Sl) (a2 : Int) (K : Sl → World → Prop) : World → Prop :=
 newO (.cells #[(.int .i64 a0.1)] 165) fun b1 =>
 newO (.cells #[(.int .u8 (0 : Int)), (.int .u8 (0 : Int))] 227) fun b2 =>
 drew <|
 ld (.int .i64) (at0 b1) fun (x3 : Int) =>
 ld (.int .i64) (at0 b1) fun (x4 : Int) =>
 chk (0 ≤ (8 : Int)) <|
 chk (0 ≤ x3 ∧ x3 < ((2 : Nat) : Int)) <|
 stC ((at0 b2).add (scaled (Int.toNat x3) 1)) (.int .u8 (IntKind.wrap .u8 a2)) <|
 keep (fun w => w.cell? (at0 b1) = some (Cell.val (.int .i64) x4)) <|
 chk (0 ≤ (IntKind.wrap .i64 ((1 : Int) - x4)) ∧ (IntKind.wrap .i64 ((1 : Int) - x4)) < ((2 : Nat) : Int)) <|
 stC ((at0 b2).add (scaled (Int.toNat (IntKind.wrap .i64 ((1 : Int) - x4))) 1)) (.int .u8 (IntKind.wrap .u8 (Int.fdiv a2 (2 ^ (min (Int.toNat (8 : Int)) (IntKind.bits .i64)))))) <|
 slc (some (at0 b2)) 0 ((2 : Nat) : Int) ((2 : Nat) : Int) 2 1 fun x5 =>
 rawT Tryz.prog (.one (.one .sl)) (Builtin.append_ #[22, 22] 22 #[(.slice a1.a a1.len a1.cap), (.slice x5.a x5.len x5.cap)]) fun (x6 : Sl) =>
 K x6
noncomputable def h209 : Hint := (hS (hR 2) (hS (hR 1) (hS (.region [0, 1, 2, 3, 4, 5, 6, 7, 8, 9, 10, 11, 12, 13] (hO 14)) (hS (hR 4) hL))))
theorem F209_calls {a0 : (Int × Unit)} {a1 : Sl} {a2 : Int} {K : Sl → World → Prop} {w : World} (h : F209 a0 a1 a2 K w) : callT Tryz.prog 209 #[(.agg (Cells.vals c165 a0).toArray), (.slice a1.a a1.len a1.cap), (.int .i64 a2)] (.one (.one .sl)) K w := tied tabOk Tryz.func209 h209 [(.agg (Cells.vals c165 a0).toArray), (.slice a1.a a1.len a1.cap), (.int .i64 a2)] (by kernel_rfl) h
noncomputable def F210 (a0 : (Unit)) (a1 : Sl) (K : (Int × Int × Unit) → World → Prop) : World → Prop :=
 newO (.cells #[] 166) fun b1 =>
 ix a1.a a1.len (0 : Int) fun p2 =>
 ld (.int .u8) (p2.add (scaled (Int.toNat (0 : Int)) 1)) fun (x3 : Int) =>
 K ((IntKind.wrap .i64 x3), (1 : Int), ())
noncomputable def h210 : Hint := (hS (hR 3) (hS (hR 6) hL))
theorem F210_calls {a0 : (Unit)} {a1 : Sl} {K : (Int × Int × Unit) → World → Prop} {w : World} (h : F210 a0 a1 K w) : callT Tryz.prog 210 #[(.agg (Cells.vals c166 a0).toArray), (.slice a1.a a1.len a1.cap)] (.tup [(.one (.int .i64)), (.one (.int .i64))]) K w := tied tabOk Tryz.func210 h210 [(.agg (Cells.vals c166 a0).toArray), (.slice a1.a a1.len a1.cap)] (by kernel_rfl) h
noncomputable def F213 (a0 : (Unit)) (a1 : Sl) (a2 : Int) (K : Sl → World → Prop) : World → Prop :=
 newO (.cells #[] 166) fun b1 =>
 newO (.cells #[(.int .u8 (IntKind.wrap .u8 a2))] 5) fun b2 =>
 rawT Tryz.prog (.one (.one .sl)) (Builtin.append_ #[22, 22] 22 #[(.slice a1.a a1.len a1.cap), (.slice (some (at0 b2)) 1 1)]) fun (x3 : Sl) =>
 K x3
noncomputable def h213 : Hint := (hS (hR 2) (hS (hR 6) hL))
theorem F213_calls {a0 : (Unit)} {a1 : Sl} {a2 : Int} {K : Sl → World → Prop} {w : World} (h : F213 a0 a1 a2 K w) : callT Tryz.prog 213 #[(.agg (Cells.vals c166 a0).toArray), (.slice a1.a a1.len a1.cap), (.int .i64 a2)] (.one (.one .sl)) K w := tied tabOk Tryz.func213 h213 [(.agg (Cells.vals c166 a0).toArray), (.slice a1.a a1.len a1.cap), (.int .i64 a2)] (by kernel_rfl) h
noncomputable def F214 (a0 : (Unit)) (a1 : Int) (K : Int → World → Prop) : World → Prop :=
 newO (.cells #[] 166) fun b1 =>
 join (S := Bool × Unit) (fun J2 =>
 sif (decide (a1 < (0 : Int))) (
 J2 (true, ())) (
 J2 ((decide (a1 > (255 : Int))), ()))) fun (s3 : Bool × Unit) =>
 sif s3.1 (
 K (0 : Int)) (
 K (1 : Int))
noncomputable def h214 : Hint := (hS (hR 2) (hS (hJ (2016, [(10, tB)]) (.region [] (.ops 3 (.split 7 (.skips 2 (hO 1)) (hO 3)))) (hC (hS (hR 1) hL) hL)) (hS (hR 1) hL)))
theorem F214_calls {a0 : (Unit)} {a1 : Int} {K : Int → World → Prop} {w : World} (h : F214 a0 a1 K w) : callT Tryz.prog 214 #[(.agg (Cells.vals c166 a0).toArray), (.int .i64 a1)] (.one (.one (.int .i64))) K w := tied tabOk Tryz.func214 h214 [(.agg (Cells.vals c166 a0).toArray), (.int .i64 a1)] (by kernel_rfl) h
end Go.Proofs.YtabcpghhfeplaaaGreat
namespace Go.Proofs.YtabcpghhfeplaaaGreat
open Go Go.Vx Cdc
section
variable {w w' : World}
theorem func_x {g : FuncId} {caps args : Array Value} {t : RTy} {K : t.T → World → Prop} (hf : ((Tryz.prog.funcs[g]?).map fun fn => (fn.body.isNone, fn.name == "runtime.NumGoroutine")) = some (false, false)) (h : callT Tryz.prog g (args ++ caps) t K w) :
  callX Tryz.prog (do let d ← Deferred.ofValue (.func (.func g) #[] caps) args; invoke d.target d.args : Sem Next) t K w := by
 refine .inl ⟨g, args ++ caps, ?_, h⟩
 have := run_callFunc (P := Tryz.prog) (f := g) (args := args ++ caps) hf w
 simp only [Deferred.ofValue, pure_bind, invoke]
 have e : (#[] ++ args ++ caps : Array Value) = args ++ caps := by simp
 first
  | exact this
  | (rw [e]; exact this)
theorem meth_x {ty : TypeId} {v v' : Value} {name : String} {f : FuncId} {a : Value} {t : RTy} {K : t.T → World → Prop} (hm : ∀ w, (Go.method (Tryz.prog.types.size + Made.depth) ty v name).run Tryz.prog w = .ok (f, v') w)
  (hf : ((Tryz.prog.funcs[f]?).map fun fn => (fn.body.isNone, fn.name == "runtime.NumGoroutine")) = some (false, false)) (h : callT Tryz.prog f #[v', a] t K w) :
  callX Tryz.prog (invoke (.fn (.method name) #[]) (#[.iface ty v] ++ #[a])) t K w := by
 refine .inl ⟨f, #[v', a], ?_, h⟩
 have h := run_callFunc (P := Tryz.prog) (f := f) (args := #[v', a]) hf w
 have e : invoke (.fn (.method name) #[]) (#[.iface ty v] ++ #[a]) = callMethod (.iface ty v) name #[a] := rfl
 rw [e]
 simp only [callMethod, Sem.run_bind, program, Sem.run, Result.andThen_ok, hm]
 exact h
theorem meth_x2 {ty : TypeId} {v v' : Value} {name : String} {f : FuncId} {a b : Value} {t : RTy} {K : t.T → World → Prop} (hm : ∀ w, (Go.method (Tryz.prog.types.size + Made.depth) ty v name).run Tryz.prog w = .ok (f, v') w)
  (hf : ((Tryz.prog.funcs[f]?).map fun fn => (fn.body.isNone, fn.name == "runtime.NumGoroutine")) = some (false, false)) (h : callT Tryz.prog f #[v', a, b] t K w) :
  callX Tryz.prog (invoke (.fn (.method name) #[]) (#[.iface ty v] ++ #[a, b])) t K w := by
 refine .inl ⟨f, #[v', a, b], ?_, h⟩
 have h := run_callFunc (P := Tryz.prog) (f := f) (args := #[v', a, b]) hf w
 have e : invoke (.fn (.method name) #[]) (#[.iface ty v] ++ #[a, b]) = callMethod (.iface ty v) name #[a, b] := rfl
 rw [e]
 simp only [callMethod, Sem.run_bind, program, Sem.run, Result.andThen_ok, hm]
 exact h
abbrev By (w : World) (s : Sl) (l : Bs) : Prop := SlIn w s 5 1 (bv l)
theorem By.len {s : Sl} {l : Bs} (h : By w s l) : l.length = s.len := by have := h.len1; rwa [List.length_map] at this
theorem bv_map (l : Bs) : bv l = (l.map fun b => (b.toNat : Int)).map (Cell.int .u8).val := by
 rw [List.map_map]; rfl
theorem ix_by {s : Sl} {l : Bs} {n : Int} {K : Addr → Int → World → Prop} (h : By w s l) (h0 : 0 ≤ n) {b : UInt8} (hb : l[n.toNat]? = some b) (hK : ∀ p, K p (b.toNat : Int) w) :
  ix s.a s.len n (fun p => ld (.int .u8) (p.add (scaled (Int.toNat n) 1)) (K p)) w := by
 have h' : SlIn w s 5 1 ((l.map fun b => (b.toNat : Int)).map (Cell.int .u8).val) := by rw [← bv_map]; exact h
 exact ix_ld h' h0 (x := (b.toNat : Int)) (by rw [List.getElem?_map, hb]; rfl) hK
theorem bv_drop (l : Bs) (n : Nat) : (bv l).drop n = bv (l.drop n) := by simp [bv]
theorem bv_take (l : Bs) (n : Nat) : (bv l).take n = bv (l.take n) := by simp [bv]
theorem slc_by {s : Sl} {l : Bs} {a b m : Int} {K : Sl → World → Prop} (hs : By w s l) (h0 : 0 ≤ a) (h1 : a ≤ b) (h2 : b ≤ s.len) (h3 : b ≤ m) (h4 : m ≤ s.cap)
  (hK : ∀ s', By w s' ((l.drop a.toNat).take (b.toNat - a.toNat)) → s'.len = b.toNat - a.toNat → (∀ k, s'.blk k → s.blk k) → K s' w) : slc s.a a b m s.cap 1 K w :=
 slc_r hs h0 h1 h2 h3 h4 fun s' hs' hl _ hb => hK s' (by
  rw [Nat.mul_one, Nat.mul_one, bv_drop, bv_take] at hs'; exact hs') hl hb
theorem bounds_call {c : UInt8} {K : Int × Int × Int × Unit → World → Prop} (hK : K (((bnds c.toNat).1 : Nat), ((bnds c.toNat).2.1 : Nat), ((bnds c.toNat).2.2 : Nat), ()) w) :
  callT Tryz.prog 200 #[.int .u8 (c.toNat : Int)] (.tup [(.one (.int .i64)), (.one (.int .u8)), (.one (.int .u8))]) K w := by
 refine F200_calls ?_
 unfold F200
 have hlt := c.toNat_lt
 unfold bnds at hK
 repeat' refine sif_r (fun h => ?_) (fun h => ?_)
 all_goals simp only [decide_eq_true_eq, decide_eq_false_iff_not, beq_iff_eq, beq_eq_false_iff_ne] at *
 all_goals
  repeat rw [if_pos (by omega)] at hK
  repeat rw [if_neg (by omega)] at hK
  repeat rw [if_pos (by omega)] at hK
  exact hK
theorem more_step {c : UInt8} : ∀ {m : Nat} {r : Bs} {j : Nat}, j ≤ more m r → (j < m ∧ r[j]? = some c ∧ cont c = true → j < more m r)
 | 0, r, j, _ => fun h => absurd h.1 (by omega)
 | m + 1, [], j, _ => fun h => by simp at h
 | m + 1, b :: r, 0, _ => fun h => by
  simp at h
  simp [more, h]
 | m + 1, b :: r, j + 1, hj => fun h => by
  simp only [more] at hj ⊢
  split at hj
  ·rename_i hb
   rw [if_pos hb]
   have := more_step (c := c) (m := m) (r := r) (j := j) (by omega) ⟨by omega, by simpa using h.2.1, h.2.2⟩
   omega
  ·omega
theorem more_cont : ∀ {m : Nat} {r : Bs} {j : Nat}, j < more m r → ∃ c, r[j]? = some c ∧ cont c = true
 | 0, r, j, h => by cases r <;> simp [more] at h
 | m + 1, [], j, h => by simp [more] at h
 | m + 1, b :: r, 0, h => by
  simp only [more] at h
  split at h
  ·rename_i hb; exact ⟨b, rfl, hb⟩
  ·omega
 | m + 1, b :: r, j + 1, h => by
  simp only [more] at h
  split at h
  ·obtain ⟨c, hc⟩ := more_cont (m := m) (r := r) (j := j) (by omega)
   exact ⟨c, by simpa using hc⟩
  ·omega
theorem cont_bits : ∀ c : UInt8, ((IntKind.wrap .u8 ((BitVec.toNat (BitVec.ofInt (IntKind.bits .u8) (c.toNat : Int) &&& BitVec.ofInt (IntKind.bits .u8) (192 : Int)) : Nat) : Int)) == (128 : Int)) = cont c := by
 intro c
 have h : ∀ n : Fin 256, ((IntKind.wrap .u8 ((BitVec.toNat (BitVec.ofInt (IntKind.bits .u8) (n.val : Int) &&& BitVec.ofInt (IntKind.bits .u8) (192 : Int)) : Nat) : Int)) == (128 : Int)) = (n.val / 64 == 2) := by decide +kernel
 exact h ⟨c.toNat, c.toNat_lt⟩
theorem row_call {s : Sl} {b : UInt8} {r : Bs} (hB : By w s (b :: r)) {K : Int × Int × Unit → World → Prop} (hK : K (((rowOf (b :: r)).1 : Nat), ((rowOf (b :: r)).2 : Nat), ()) w) :
  callT Tryz.prog 199 #[.slice s.a s.len s.cap] (.tup [(.one (.int .i64)), (.one (.int .i64))]) K w := by
 refine F199_calls ?_
 unfold F199
 have hlen : r.length + 1 = s.len := hB.len
 refine ix_by hB (by decide) (b := b) rfl fun p => bounds_call ?_
 have h4 := bnds_le b.toNat
 have hbr := rowOf_bnds b r
 refine sif_r (fun h => ?_) (fun h => ?_)
 ·simp only [decide_eq_true_eq] at h
  have h2 : (bnds b.toNat).1 < 2 := by omega
  simp only [rowOf, if_pos h2] at hK
  exact hK
 simp only [decide_eq_false_iff_not] at h
 have h2 : ¬ (bnds b.toNat).1 < 2 := by omega
 cases r with
 | nil =>
  simp only [rowOf, if_neg h2] at hK
  have : s.len = 1 := by simpa using hlen.symm
  refine join_r (fun x w' => x = (true, ()) ∧ w = w') (sif_r (fun _ => ⟨rfl, rfl⟩) (fun h => ?_)) ?_
  ·simp only [decide_eq_false_iff_not] at h; omega
  ·rintro _ w' ⟨rfl, rfl⟩
   exact sif_true hK
 | cons c r =>
  have hl2 : r.length + 2 = s.len := by simpa using hlen
  refine join_r (fun x w' => x = (decide (c.toNat < (bnds b.toNat).2.1 ∨ (bnds b.toNat).2.2 < c.toNat), ()) ∧ w = w') (sif_r (fun h => ?_) (fun _ => ?_)) ?_
  ·simp only [decide_eq_true_eq] at h; omega
  ·refine ix_by hB (by decide) (b := c) rfl fun p => sif_r (fun h => ?_) (fun h => ix_by hB (by decide) (b := c) rfl fun p => ?_)
   ·simp only [decide_eq_true_eq] at h
    exact ⟨by rw [decide_eq_true (by omega)], rfl⟩
   ·simp only [decide_eq_false_iff_not] at h
    refine ⟨tupb ?_, rfl⟩
    simp only [decide_eq_true_eq]
    omega
  ·rintro _ w' ⟨rfl, rfl⟩
   refine sif_r (fun h => ?_) (fun h => ?_)
   ·simp only [decide_eq_true_eq] at h
    simp only [rowOf, if_neg h2, if_pos h] at hK
    exact hK
   ·simp only [decide_eq_false_iff_not] at h
    simp only [rowOf, if_neg h2, if_neg h] at hK
    generalize hm : (bnds b.toNat).1 - 2 = m at hK
    have hn : (bnds b.toNat).1 = m + 2 := by omega
    rw [hn] at hK ⊢
    refine join_r (fun x w' => x = (((2 + more m r : Nat) : Int), ()) ∧ w = w') ?_ ?_
    ·refine sloop_r (fun x w' => (∃ j : Nat, x = (((2 + j : Nat) : Int), ()) ∧ j ≤ more m r) ∧ w = w') (fun x _ => (m + 2 - x.1.toNat)) ⟨⟨0, rfl, Nat.zero_le _⟩, rfl⟩ ?_
     rintro _ w' ⟨⟨j, rfl, hj⟩, rfl⟩
     have hmo := more_le m r
     refine join_r (fun x w' => x = (decide (j < more m r), ()) ∧ w = w') ?_ ?_
     ·refine sif_r (fun h => ?_) (fun h => ?_)
      ·simp only [decide_eq_true_eq] at h
       refine sif_r (fun h' => ?_) (fun h' => ?_)
       ·simp only [decide_eq_true_eq] at h'
        have hjl : j < r.length := by omega
        have hx : (b :: c :: r)[((2 + j : Nat) : Int).toNat]? = some r[j] := by
         have : ((2 + j : Nat) : Int).toNat = j + 2 := by omega
         rw [this]; simp [hjl]
        refine ix_by hB (by omega) hx fun p => ⟨?_, rfl⟩
        rw [cont_bits]
        refine tupb ?_
        simp only [decide_eq_true_eq]
        refine ⟨fun hc => more_step (c := r[j]) hj ⟨by omega, by simp [hjl], hc⟩, fun hc => ?_⟩
        obtain ⟨c', h1, h2⟩ := more_cont hc
        rw [List.getElem?_eq_getElem hjl] at h1
        cases h1; exact h2
       ·simp only [decide_eq_false_iff_not] at h'
        exact ⟨by rw [decide_eq_false (by omega)], rfl⟩
      ·simp only [decide_eq_false_iff_not] at h
       exact ⟨by rw [decide_eq_false (by omega)], rfl⟩
     ·rintro _ w' ⟨rfl, rfl⟩
      refine sif_r (fun h => ?_) (fun h => ?_)
      ·simp only [decide_eq_true_eq] at h
       have e : IntKind.wrap .i64 (((2 + j : Nat) : Int) + 1) = ((2 + (j + 1) : Nat) : Int) := by rw [wrap64 (by omega) (by omega)]; omega
       rw [e]
       exact ⟨⟨⟨j + 1, rfl, h⟩, rfl⟩, by simp only; omega⟩
      ·simp only [decide_eq_false_iff_not] at h
       have : j = more m r := by omega
       exact ⟨by rw [this], rfl⟩
    ·rintro _ w' ⟨rfl, rfl⟩
     exact hK
theorem rest_snoc (a : Nat) (l : Bs) (c : UInt8) : rest a (l ++ [c]) = rest a l * 64 + c.toNat % 64 := by simp [rest]
theorem rest_lt : ∀ (l : Bs) (a : Nat), rest a l < (a + 1) * 64 ^ l.length
 | [], a => by simp [rest]
 | c :: l, a => by
  have := rest_lt l (a * 64 + c.toNat % 64)
  have e : rest a (c :: l) = rest (a * 64 + c.toNat % 64) l := rfl
  rw [e, List.length_cons, Nat.pow_succ]
  refine Nat.lt_of_lt_of_le this ?_
  have h : a * 64 + c.toNat % 64 + 1 ≤ (a + 1) * 64 := by omega
  calc (a * 64 + c.toNat % 64 + 1) * 64 ^ l.length ≤ (a + 1) * 64 * 64 ^ l.length := Nat.mul_le_mul_right _ h
   _ = (a + 1) * (64 ^ l.length * 64) := by rw [Nat.mul_assoc, Nat.mul_comm 64]
theorem lead_bits (c : UInt8) (k : Nat) (hk : k ≤ 8) : IntKind.wrap .i64 ((BitVec.toNat (BitVec.ofInt (IntKind.bits .i64) (IntKind.wrap .i64 (c.toNat : Int)) &&& BitVec.ofInt (IntKind.bits .i64) (2 ^ k - 1)) : Nat) : Int) = ((c.toNat % 2 ^ k : Nat) : Int) := by
 have hc := c.toNat_lt
 rw [wrap64 (a := (c.toNat : Int)) (by omega) (by omega)]
 have h := and_lo (b := IntKind.bits .i64) (k := k) (a := (c.toNat : Int)) (m := 2 ^ k - 1) (by omega) (by show (c.toNat : Int) < 2 ^ 64; omega) rfl (by show k ≤ 64; omega)
 rw [h, Int.natCast_emod]
 have e : ((2 ^ k : Nat) : Int) = (2 : Int) ^ k := by simp
 rw [e]
 have h0 : (0 : Int) < 2 ^ k := Int.pow_pos (by decide)
 have h1 : (c.toNat : Int) % 2 ^ k ≤ (c.toNat : Int) := by
  rw [← e, ← Int.natCast_emod]
  exact_mod_cast Nat.mod_le _ _
 have h2 := Int.emod_nonneg (c.toNat : Int) (Int.ne_of_gt h0)
 exact wrap64 (by omega) (by omega)
theorem lead5 (c : UInt8) : IntKind.wrap .i64 ((BitVec.toNat (BitVec.ofInt (IntKind.bits .i64) (IntKind.wrap .i64 (c.toNat : Int)) &&& BitVec.ofInt (IntKind.bits .i64) (31 : Int)) : Nat) : Int) = ((c.toNat % 32 : Nat) : Int) := lead_bits c 5 (by decide)
theorem lead4 (c : UInt8) : IntKind.wrap .i64 ((BitVec.toNat (BitVec.ofInt (IntKind.bits .i64) (IntKind.wrap .i64 (c.toNat : Int)) &&& BitVec.ofInt (IntKind.bits .i64) (15 : Int)) : Nat) : Int) = ((c.toNat % 16 : Nat) : Int) := lead_bits c 4 (by decide)
theorem lead3 (c : UInt8) : IntKind.wrap .i64 ((BitVec.toNat (BitVec.ofInt (IntKind.bits .i64) (IntKind.wrap .i64 (c.toNat : Int)) &&& BitVec.ofInt (IntKind.bits .i64) (7 : Int)) : Nat) : Int) = ((c.toNat % 8 : Nat) : Int) := lead_bits c 3 (by decide)
theorem go_bits (a : Nat) (c : UInt8) (ha : a < 2 ^ 40) : IntKind.wrap .i64 ((BitVec.toNat (BitVec.ofInt (IntKind.bits .i64) (IntKind.wrap .i64 ((a : Int) * 2 ^ (min (Int.toNat (6 : Int)) (IntKind.bits .i64)))) ||| BitVec.ofInt (IntKind.bits .i64) (IntKind.wrap .i64 (IntKind.wrap .u8 ((BitVec.toNat (BitVec.ofInt (IntKind.bits .u8) (c.toNat : Int) &&& BitVec.ofInt (IntKind.bits .u8) (63 : Int)) : Nat) : Int)))) : Nat) : Int) = ((a * 64 + c.toNat % 64 : Nat) : Int) := by
 have hc := c.toNat_lt
 have h1 := and_lo (b := IntKind.bits .u8) (k := 6) (a := (c.toNat : Int)) (m := 63) (by omega) (by show (c.toNat : Int) < 2 ^ 8; omega) rfl (by decide)
 rw [h1, wrap8 (by omega) (by omega), wrap64 (a := (c.toNat : Int) % 2 ^ 6) (by omega) (by omega)]
 have e : ((2 : Int) ^ (min (Int.toNat (6 : Int)) (IntKind.bits .i64))) = 2 ^ 6 := rfl
 rw [e, wrap64 (a := (a : Int) * 2 ^ 6) (by omega) (by omega)]
 have h2 := or_shift (b := IntKind.bits .i64) (k := 6) (a := (a : Int)) (c := (c.toNat : Int) % 2 ^ 6) (by omega) (by omega) (by omega) (by show _ < (2 : Int) ^ 64; omega)
 rw [h2, wrap64 (by omega) (by omega)]
 omega
theorem first8_call {s : Sl} {b : UInt8} {r : Bs} (hB : By w s (b :: r)) {K : Int × Int × Unit → World → Prop} (hK : ∀ w', Ext w w' → K ((nx8 (b :: r)).1, ((nx8 (b :: r)).2 : Nat), ()) w') :
    callT Tryz.prog 194 #[.agg #[], .slice s.a s.len s.cap] (.tup [(.one (.int .i64)), (.one (.int .i64))]) K w := by
  refine F194_calls (a0 := ()) ?_
  unfold F194
  have hlen : r.length + 1 = s.len := hB.len
  have hb := b.toNat_lt
  refine newO_r fun _ w1 e1 _ _ _ => ?_
  have hB1 : By w1 s (b :: r) := hB.ext e1
  refine row_call hB1 ?_
  have hro := rowOf_le b r
  have hrb := rowOf_bnds b r
  have h4 := bnds_le b.toNat
  have hcap := hB.le
  replace hK := hK w1 e1
  simp only [nx8] at hK
  generalize hn : (rowOf (b :: r)).2 = n at *
  generalize hh : (rowOf (b :: r)).1 = h at *
  refine join_r (fun x w' => x = (decide (n = 0 ∨ h < n), ()) ∧ w1 = w') (sif_r (fun hc => ?_) (fun hc => ?_)) ?_
  · simp only [beq_iff_eq] at hc
    exact ⟨by rw [decide_eq_true (by omega)], rfl⟩
  · simp only [beq_eq_false_iff_ne] at hc
    refine ⟨tupb ?_, rfl⟩
    simp only [decide_eq_true_eq]; omega
  rintro _ w' ⟨rfl, rfl⟩
  refine sif_r (fun hc => ?_) (fun hc => ?_)
  · simp only [decide_eq_true_eq] at hc
    rw [if_pos hc] at hK
    refine ix_by hB1 (by decide) (b := b) rfl fun p => ?_
    rw [wrap64 (a := (b.toNat : Int)) (by omega) (by omega), wrap64 (by omega) (by omega)]
    exact hK
  simp only [decide_eq_false_iff_not] at hc
  rw [if_neg hc] at hK
  refine ix_by hB1 (by decide) (b := b) rfl fun p => ?_
  have hlt : lead n b.toNat < 256 := by unfold lead; repeat' split
                                        all_goals omega
  refine join_r (fun x w' => x = (((lead n b.toNat : Nat) : Int), ()) ∧ w1 = w') ?_ ?_
  · unfold lead
    refine sif_r (fun hc => ?_) (fun hc => sif_r (fun hc => ?_) (fun hc => sif_r (fun hc => ?_) (fun hc => ?_)))
    all_goals simp only [beq_iff_eq, beq_eq_false_iff_ne] at *
    · rw [lead5, if_pos (by omega)]; exact ⟨rfl, trivial⟩
    · rw [lead4, if_neg (by omega), if_pos (by omega)]; exact ⟨rfl, trivial⟩
    · rw [lead3, if_neg (by omega), if_neg (by omega), if_pos (by omega)]; exact ⟨rfl, trivial⟩
    · rw [if_neg (by omega), if_neg (by omega), if_neg (by omega), wrap64 (by omega) (by omega)]; exact ⟨rfl, trivial⟩
  rintro _ w' ⟨rfl, rfl⟩
  simp only
  generalize hld : lead n b.toNat = ld at *
  refine join_r (fun x w' => x = (((rest ld (r.take (n - 1)) : Nat) : Int), ()) ∧ w1 = w') ?_ ?_
  · simp only [List.length_cons] at hro
    refine slc_by hB1 (by decide) (by omega) (by omega) (by omega) (by omega) fun s' hs' hl' _ => ?_
    have hR : ((b :: r).drop (Int.toNat 1)).take (((n : Nat) : Int).toNat - Int.toNat 1) = r.take (n - 1) := by
      have : ((n : Nat) : Int).toNat - Int.toNat 1 = n - 1 := by omega
      rw [this]; rfl
    rw [hR] at hs'
    generalize hRR : r.take (n - 1) = R at *
    have hRl : R.length = s'.len := hs'.len
    have hR3 : R.length ≤ 3 := by rw [← hRR, List.length_take]; omega
    refine sloop_r (fun x w' => (∃ i : Nat, x = (((rest ld (R.take i) : Nat) : Int), (i : Int), ()) ∧ i ≤ R.length) ∧ w1 = w') (fun x _ => R.length - x.2.1.toNat) ⟨⟨0, by simp [rest], Nat.zero_le _⟩, rfl⟩ ?_
    rintro _ w' ⟨⟨i, rfl, hi⟩, rfl⟩
    refine sif_r (fun hc => ?_) (fun hc => ?_)
    · simp only [decide_eq_true_eq] at hc
      have hiR : i < R.length := by omega
      refine ix_by hs' (by simp only; omega) (b := R[i]) (by simp [hiR]) fun p => chk_r (by decide) ?_
      have hlt2 := rest_lt (R.take i) ld
      have hb2 : rest ld (R.take i) < 2 ^ 40 := by
        refine Nat.lt_of_lt_of_le hlt2 ?_
        have h1 : 64 ^ (R.take i).length ≤ 64 ^ 3 := Nat.pow_le_pow_right (by decide) (by rw [List.length_take]; omega)
        calc (ld + 1) * 64 ^ (R.take i).length ≤ 256 * 64 ^ 3 := Nat.mul_le_mul (by omega) h1
          _ ≤ 2 ^ 40 := by decide
      dsimp only
      rw [go_bits _ _ hb2]
      have e : rest ld (R.take i) * 64 + R[i].toNat % 64 = rest ld (R.take (i + 1)) := by
        rw [← rest_snoc, List.take_append_getElem]
      rw [e, wrap64 (by omega) (by omega)]
      exact ⟨⟨⟨i + 1, rfl, hiR⟩, rfl⟩, by omega⟩
    · simp only [decide_eq_false_iff_not] at hc
      have : i = R.length := by omega
      subst this
      rw [List.take_length]
      exact ⟨rfl, rfl⟩
  rintro _ w' ⟨rfl, rfl⟩
  exact hK
end
end Go.Proofs.YtabcpghhfeplaaaGreat
namespace Go.Proofs.YtabcpghhfeplaaaGreat
open Go Go.Vx Trx
section
variable {w w' : World}
def smT (s : Sums) : Cells.T c110 := ((s.atoms : Int), (s.bytes : Int), (s.breaks : Int), s.lf, s.cr, ())
def pcT (x : Pc) : Cells.T c112 := (x.bytes, x.tag, (x.sm.atoms : Int), (x.sm.bytes : Int), (x.sm.breaks : Int), x.sm.lf, x.sm.cr, ())
abbrev smV (s : Sums) : Value := .agg (Cells.vals c110 (smT s)).toArray
abbrev pcV (x : Pc) : Value := .agg (Cells.vals c112 (pcT x)).toArray
theorem meth_x0 {ty : TypeId} {v v' : Value} {name : String} {f : FuncId} {t : RTy} {K : t.T → World → Prop} (hm : ∀ w, (Go.method (Tryz.prog.types.size + Made.depth) ty v name).run Tryz.prog w = .ok (f, v') w)
  (hf : ((Tryz.prog.funcs[f]?).map fun fn => (fn.body.isNone, fn.name == "runtime.NumGoroutine")) = some (false, false)) (h : callT Tryz.prog f #[v'] t K w) :
  callX Tryz.prog (invoke (.fn (.method name) #[]) (#[.iface ty v] ++ #[])) t K w := by
 refine .inl ⟨f, #[v'], ?_, h⟩
 have h := run_callFunc (P := Tryz.prog) (f := f) (args := #[v']) hf w
 have e : invoke (.fn (.method name) #[]) (#[.iface ty v] ++ #[]) = callMethod (.iface ty v) name #[] := rfl
 rw [e]
 simp only [callMethod, Sem.run_bind, program, Sem.run, Result.andThen_ok, hm]
 exact h
theorem add_call {s o : Sums} (hs : s.Ok) (ho : o.Ok) (hb : s.bytes + o.bytes < 2 ^ 60) {K : Cells.T c110 → World → Prop} (hK : ∀ w', Ext w w' → K (smT (s.add o)) w') :
  callT Tryz.prog 86 #[smV s, smV o] (.one (.agg c110)) K w := by
 have h1 := hs.byt; have h2 := hs.brk; have h3 := ho.byt; have h4 := ho.brk
 refine F86_calls (a0 := smT s) (a1 := smT o) ?_
 unfold F86
 refine (St.start w).newO fun b1 w1 S1 e1 => S1.newO fun b2 w2 S2 e2 => S2.newO fun b3 w3 S3 e3 => ?_
 refine S3.ld 2 rfl (x := ((s.atoms : Nat) : Int)) rfl ?_
 refine sif_r (fun h => ?_) (fun h => ?_)
 ·have h0 : s.atoms = 0 := by simp only [beq_iff_eq] at h; omega
  refine S3.lds 1 (smT o) rfl (S3.aggSt 0 rfl rfl rfl rfl fun w4 S4 u4 => S4.lds 0 (smT o) rfl ?_)
  have := hK w4 S4.upd
  rwa [show s.add o = o by unfold Sums.add; rw [if_pos h0]] at this
 have h0 : ¬ s.atoms = 0 := by simp only [beq_eq_false_iff_ne] at h; omega
 refine S3.ld 1 rfl (x := ((o.atoms : Nat) : Int)) rfl (sif_r (fun h => ?_) (fun h => ?_))
 ·have h0' : o.atoms = 0 := by simp only [beq_iff_eq] at h; omega
  refine S3.lds 2 (smT s) rfl (S3.aggSt 0 rfl rfl rfl rfl fun w4 S4 u4 => S4.lds 0 (smT s) rfl ?_)
  have := hK w4 S4.upd
  rwa [show s.add o = s by unfold Sums.add; rw [if_neg h0, if_pos h0']] at this
 have h0' : ¬ o.atoms = 0 := by simp only [beq_eq_false_iff_ne] at h; omega
 refine S3.ld 2 rfl (x := ((s.atoms : Nat) : Int)) rfl (S3.ld 1 rfl (x := ((o.atoms : Nat) : Int)) rfl (S3.ld 2 rfl (x := ((s.bytes : Nat) : Int)) rfl (S3.ld 1 rfl (x := ((o.bytes : Nat) : Int)) rfl
  (S3.ld 2 rfl (x := ((s.breaks : Nat) : Int)) rfl (S3.ld 1 rfl (x := ((o.breaks : Nat) : Int)) rfl (S3.ld 2 rfl (x := s.lf) rfl (S3.ld 1 rfl (x := o.cr) rfl ?_)))))))
 rw [wrap64 (a := ((s.atoms : Nat) : Int) + ((o.atoms : Nat) : Int)) (by omega) (by omega), wrap64 (a := ((s.bytes : Nat) : Int) + ((o.bytes : Nat) : Int)) (by omega) (by omega), wrap64 (a := ((s.breaks : Nat) : Int) + ((o.breaks : Nat) : Int)) (by omega) (by omega)]
 refine S3.newAgg rfl rfl rfl fun b4 w4 S4 e4 => ?_
 refine join_r (fun _ w' => St (fun _ => False) w w' [(b4, .cells (Cells.vals c110 (smT (s.add o))).toArray 110 (0, 0)), (b3, .cells #[(.int .i64 0), (.int .i64 0), (.int .i64 0), (.bool false), (.bool false)] 110 (0, 0))]) ?_ ?_
 ·refine join_r (fun x w' => x = (s.cr && o.lf, ()) ∧ w4 = w') (S4.ld 3 rfl (x := s.cr) rfl (sif_r (fun h => S4.ld 2 rfl (x := o.lf) rfl ⟨by rw [h]; rfl, rfl⟩) (fun h => ⟨by rw [h]; rfl, rfl⟩))) ?_
  rintro _ w' ⟨rfl, rfl⟩
  have lf := hs.cr; have lf' := ho.lf
  refine sif_r (fun h => ?_) (fun h => ?_)
  ·have h' : (s.cr && o.lf) = true := h
   simp only [Bool.and_eq_true] at h'
   have := lf h'.1; have := lf' h'.2
   refine S4.ld 0 rfl (x := ((s.breaks : Nat) : Int) + ((o.breaks : Nat) : Int)) rfl ?_
   rw [wrap64 (by omega) (by omega)]
   refine S4.stC 0 rfl (by simp) fun w5 S5 u5 => ?_
   have e : s.add o = ⟨s.atoms + o.atoms, s.bytes + o.bytes, s.breaks + o.breaks - 1, s.lf, o.cr⟩ := by unfold Sums.add; rw [if_neg h0, if_neg h0', if_pos h]
   rw [e]
   have e2 : ((s.breaks : Nat) : Int) + ((o.breaks : Nat) : Int) - 1 = ((s.breaks + o.breaks - 1 : Nat) : Int) := by omega
   rw [e2] at S5
   exact ⟨S5.upd, S5.old, fun x hx => S5.loc x (by
    rcases List.mem_cons.1 hx with rfl | hx
    ·exact List.mem_cons_self
    ·rw [List.mem_singleton.1 hx]; exact List.mem_cons_of_mem _ List.mem_cons_self), by
    have := S5.nd
    simp at this ⊢
    exact this.1.1⟩
  ·have e : s.add o = ⟨s.atoms + o.atoms, s.bytes + o.bytes, s.breaks + o.breaks, s.lf, o.cr⟩ := by
    have h' : ¬ (s.cr && o.lf) = true := fun hh => by
     have hf : (s.cr && o.lf) = false := h
     rw [hh] at hf; cases hf
    unfold Sums.add; rw [if_neg h0, if_neg h0', if_neg h']; rfl
   rw [e]
   exact ⟨S4.upd, S4.old, fun x hx => S4.loc x (by
    rcases List.mem_cons.1 hx with rfl | hx
    ·exact List.mem_cons_self
    ·rw [List.mem_singleton.1 hx]; exact List.mem_cons_of_mem _ List.mem_cons_self), by
    have := S4.nd
    simp at this ⊢
    exact this.1.1⟩
 ·intro _ w5 S5
  exact S5.lds 0 (smT (s.add o)) rfl (S5.aggSt 1 rfl rfl rfl rfl fun w6 S6 u6 => S6.lds 1 (smT (s.add o)) rfl (hK w6 S6.upd))
theorem add_x {s o : Sums} (hs : s.Ok) (ho : o.Ok) (hb : s.bytes + o.bytes < 2 ^ 60) {K : Cells.T c110 → World → Prop} (hK : ∀ w', Ext w w' → K (smT (s.add o)) w') :
  callX Tryz.prog (invoke (.fn (.method "Add") #[]) (#[.iface 110 (smV s)] ++ #[smV o])) (.one (.agg c110)) K w :=
 meth_x (f := 86) (v' := smV s) (fun w => by kernel_rfl) (by kernel_rfl) (add_call hs ho hb hK)
theorem measure_x {x : Pc} {K : Cells.T c110 → World → Prop} (hK : ∀ w', Ext w w' → K (smT x.sm) w') :
  callX Tryz.prog (invoke (.fn (.method "Measure") #[]) (#[.iface 112 (pcV x)] ++ #[])) (.one (.agg c110)) K w := by
 refine meth_x0 (f := 193) (v' := pcV x) (fun w => by kernel_rfl) (by kernel_rfl) ?_
 refine F193_calls (a0 := pcT x) ?_
 unfold F193
 refine (St.start w).newO fun b1 w1 S1 e1 => S1.newO fun b2 w2 S2 e2 => ?_
 refine lds_r (S2.at_ 1 rfl) (x := smT x.sm) (fun i v hv => ?_) (S2.aggSt 0 rfl rfl rfl rfl fun w3 S3 u3 => S3.lds 0 (smT x.sm) rfl (hK w3 S3.upd))
 match i, hv with
 | 0, hv => exact hv
 | 1, hv => exact hv
 | 2, hv => exact hv
 | 3, hv => exact hv
 | 4, hv => exact hv
 | i + 5, hv => cases hv
theorem key_x {s : Sums} {k : Nat} (hk : k < 2) {K : Int → World → Prop} (hK : ∀ w', Ext w w' → K (if k = 0 then (s.atoms : Int) else (s.breaks : Int)) w') :
  callX Tryz.prog (invoke (.fn (.method "Key") #[]) (#[.iface 110 (smV s)] ++ #[.int .i64 (k : Int)])) (.one (.one (.int .i64))) K w := by
 refine meth_x (f := 192) (v' := smV s) (fun w => by kernel_rfl) (by kernel_rfl) ?_
 refine F192_calls (a0 := smT s) ?_
 unfold F192
 refine (St.start w).newO fun b1 w1 S1 e1 => ?_
 have := hK w1 e1
 match k, hk with
 | 0, _ => exact sif_r (fun _ => S1.ld 0 rfl (x := ((s.atoms : Nat) : Int)) rfl this) (fun h => by cases h)
 | 1, _ => exact sif_r (fun h => by cases h) (fun _ => sif_r (fun _ => S1.ld 0 rfl (x := ((s.breaks : Nat) : Int)) rfl this) (fun h => by cases h))
end
section
variable {w w' : World} {S : Nat → Prop}
theorem _root_.Go.Vx.St.aggAt {M : Nat → Prop} {w0 : World} {ls : List (Nat × Obj)} (S : St M w0 w ls) (i : Nat) {b off n : Nat} {vs : Array Value} {K : World → Prop} {c : Array Value} {t : TypeId} (hi : ls[i]? = some (b, .cells c t (0, 0))) (hn : vs.size = n) (h1 : vs.toList.all isOne = true) (ho : off + n ≤ c.size)
  (h : ∀ w1, St M w0 w1 (ls.set i (b, .cells (setRow c off vs.toList) t (0, 0))) → K w1) : Go.Vx.aggSt ⟨b, off, none⟩ (.agg vs) n K w :=
 aggSt_r (S.at_ i hi) hn h1 ho fun w1 u hb _ => h w1 (set_loc S hi u hb)
def ncells (l r : Option Addr) (x : Pc) (n h : Nat) (s : Sums) : Array Value :=
 #[.pointer l, .pointer r, .slice x.bytes.a x.bytes.len x.bytes.cap, .int .i64 x.tag, .int .i64 (x.sm.atoms : Int), .int .i64 (x.sm.bytes : Int), .int .i64 (x.sm.breaks : Int), .bool x.sm.lf, .bool x.sm.cr,
  .int .i64 (n : Int), .int .i64 (h : Int), .int .i64 (s.atoms : Int), .int .i64 (s.bytes : Int), .int .i64 (s.breaks : Int), .bool s.lf, .bool s.cr]
def Trx.Tr.In (w : World) : Tr → Prop
 | .nil => True
 | .node b l x r => w.heap[b]? = some (.cells (ncells l.ptr r.ptr x (Tr.node b l x r).size (Tr.node b l x r).tall (tot (Tr.node b l x r).items)) 144 (0, 0)) ∧ l.In w ∧ r.In w
theorem Trx.Tr.In.ext : ∀ {t : Tr}, t.In w → Ext w w' → t.In w'
 | .nil, _, _ => trivial
 | .node _ _ _ _, h, e => ⟨e.ext_get h.1, h.2.1.ext e, h.2.2.ext e⟩
theorem Trx.Tr.In.ty : ∀ {t : Tr}, t.In w → Upd S w w' → NoTy w S 144 → t.In w'
 | .nil, _, _, _ => trivial
 | .node _ _ _ _, h, u, hS => ⟨u.get h.1 fun hk => hS _ hk _ _ h.1, h.2.1.ty u hS, h.2.2.ty u hS⟩
theorem nd_cell {b : Nat} {l r : Tr} {x : Pc} (h : (Tr.node b l x r).In w) {j : Nat} {v : Value} (hv : (ncells l.ptr r.ptr x (Tr.node b l x r).size (Tr.node b l x r).tall (tot (Tr.node b l x r).items))[j]? = some v) : w.cell? ((at0 b).add j) = some v := by
 rw [addr_add, Nat.zero_add]; exact cell_of h.1 hv
theorem nd_cell0 {b : Nat} {l r : Tr} {x : Pc} (h : (Tr.node b l x r).In w) : w.cell? (at0 b) = some (.pointer l.ptr) := cell_of h.1 rfl
theorem nd_left {b : Nat} {l r : Tr} {x : Pc} (h : (Tr.node b l x r).In w) {K : Addr → Option Addr → World → Prop} (hK : K (at0 b) l.ptr w) : nn (Tr.node b l x r).ptr (fun p => ld .ptr p (K p)) w :=
 nn_some (ld_r h.1 (x := l.ptr) rfl hK)
theorem nd_right {b : Nat} {l r : Tr} {x : Pc} (h : (Tr.node b l x r).In w) {K : Addr → Option Addr → World → Prop} (hK : K (at0 b) r.ptr w) : nn (Tr.node b l x r).ptr (fun p => ld .ptr (p.add 1) (K p)) w :=
 nn_some (by rw [addr_add]; exact ld_r h.1 (x := r.ptr) rfl hK)
theorem item_at {b : Nat} {l r : Tr} {x : Pc} (h : (Tr.node b l x r).In w) : cellsAt w ((at0 b).add 2) 0 (Cells.vals c112 (pcT x)) := by
 rw [addr_add]
 refine cellsAt_of _ 0 fun j v hv => cell_of h.1 ?_
 match j, hv with
 | 0, hv => exact hv
 | 1, hv => exact hv
 | 2, hv => exact hv
 | 3, hv => exact hv
 | 4, hv => exact hv
 | 5, hv => exact hv
 | 6, hv => exact hv
 | j + 7, hv => cases hv
theorem sum_at {b : Nat} {l r : Tr} {x : Pc} (h : (Tr.node b l x r).In w) : cellsAt w ((at0 b).add 11) 0 (Cells.vals c110 (smT (tot (Tr.node b l x r).items))) := by
 rw [addr_add]
 refine cellsAt_of _ 0 fun j v hv => cell_of h.1 ?_
 match j, hv with
 | 0, hv => exact hv
 | 1, hv => exact hv
 | 2, hv => exact hv
 | 3, hv => exact hv
 | 4, hv => exact hv
 | j + 5, hv => cases hv
theorem nd_item {b : Nat} {l r : Tr} {x : Pc} (h : (Tr.node b l x r).In w) {K : Addr → Cells.T c112 → World → Prop} (hK : K (at0 b) (pcT x) w) : nn (Tr.node b l x r).ptr (fun p => lds c112 (p.add 2) (K p)) w :=
 nn_some ⟨pcT x, item_at h, hK⟩
theorem nd_sum {b : Nat} {l r : Tr} {x : Pc} (h : (Tr.node b l x r).In w) {K : Addr → Cells.T c110 → World → Prop} (hK : K (at0 b) (smT (tot (Tr.node b l x r).items)) w) : nn (Tr.node b l x r).ptr (fun p => lds c110 (p.add 11) (K p)) w :=
 nn_some ⟨_, sum_at h, hK⟩
theorem count_call {t : Tr} (h : t.In w) {K : Int → World → Prop} (hK : K (t.size : Int) w) : callT Tryz.prog 102 #[.pointer t.ptr] (.one (.one (.int .i64))) K w := by
 refine F102_calls ?_
 unfold F102
 cases t with
 | nil => exact sif_r (fun _ => hK) (fun h => by cases h)
 | node b l x r => exact sif_r (fun h => by cases h) (fun _ => nn_some (by rw [addr_add]; exact ld_r h.1 (x := ((Tr.node b l x r).size : Int)) rfl hK))
theorem tall_call {t : Tr} (h : t.In w) {K : Int → World → Prop} (hK : K (t.tall : Int) w) : callT Tryz.prog 145 #[.pointer t.ptr] (.one (.one (.int .i64))) K w := by
 refine F145_calls ?_
 unfold F145
 cases t with
 | nil => exact sif_r (fun _ => hK) (fun h => by cases h)
 | node b l x r => exact sif_r (fun h => by cases h) (fun _ => nn_some (by rw [addr_add]; exact ld_r h.1 (x := ((Tr.node b l x r).tall : Int)) rfl hK))
structure Fine (l : List Pc) : Prop where
 ok : AllOk l
 few : l.length < 2 ^ 60
 small : (tot l).bytes < 2 ^ 60
theorem tot_app_bytes {l m : List Pc} (h : AllOk l) (h' : AllOk m) : (tot (l ++ m)).bytes = (tot l).bytes + (tot m).bytes := by
 rw [tot_append h h']; exact (Sums.add_bytes _ _ (tot_ok h) (tot_ok h')).1
theorem Fine.left {l m : List Pc} (h : Fine (l ++ m)) : Fine l := ⟨h.ok.left, by have := h.few; rw [List.length_append] at this; omega, by
 have := h.small; rw [tot_app_bytes h.ok.left h.ok.right] at this; omega⟩
theorem Fine.right {l m : List Pc} (h : Fine (l ++ m)) : Fine m := ⟨h.ok.right, by have := h.few; rw [List.length_append] at this; omega, by
 have := h.small; rw [tot_app_bytes h.ok.left h.ok.right] at this; omega⟩
theorem set_sum (l r : Option Addr) (x : Pc) (n h : Nat) (s s' : Sums) : setRow (ncells l r x n h s) 11 (Cells.vals c110 (smT s')).toArray.toList = ncells l r x n h s' := rfl
theorem agg_sum {M : Nat → Prop} {w0 : World} {ls : List (Nat × Obj)} {b : Nat} {l r : Option Addr} {x : Pc} {n h : Nat} {s s' : Sums} {K : World → Prop} (S : St M w0 w ((b, .cells (ncells l r x n h s) 144 (0, 0)) :: ls))
  (hK : ∀ w1, St M w0 w1 ((b, .cells (ncells l r x n h s') 144 (0, 0)) :: ls) → K w1) : aggSt ((at0 b).add 11) (.agg (Cells.vals c110 (smT s')).toArray) 5 K w := by
 rw [addr_add]
 refine S.aggAt 0 (c := ncells l r x n h s) rfl rfl rfl (by show 0 + 11 + 5 ≤ 16; decide) fun w1 S1 => hK w1 ?_
 rw [Nat.zero_add, set_sum] at S1
 exact S1
theorem node_call {l r : Tr} {x : Pc} (hl : l.In w) (hr : r.In w) (hf : Fine (l.items ++ x :: r.items)) {K : Option Addr → World → Prop} (hK : ∀ b w', (Tr.node b l x r).In w' → Ext w w' → K (some (at0 b)) w') :
  callT Tryz.prog 120 #[.pointer l.ptr, pcV x, .pointer r.ptr] (.one (.one .ptr)) K w := by
 refine F120_calls (a1 := pcT x) ?_
 unfold F120
 have okl := hf.ok.left
 have okx := hf.ok.right.head
 have okr := hf.ok.right.tail
 have sl := size_items l; have sr := size_items r
 have tl := tall_le l; have tr := tall_le r
 have few := hf.few
 rw [List.length_append, List.length_cons] at few
 have small := hf.small
 have ex : x :: r.items = [x] ++ r.items := rfl
 rw [ex, tot_app_bytes okl (AllOk.append (AllOk.one okx) okr), tot_app_bytes (AllOk.one okx) okr, tot_one okx] at small
 refine (St.start w).newO fun b1 w1 S1 e1 => S1.drew fun w2 S2 e2 _ => S2.lds 0 (pcT x) rfl ?_
 have e12 := e1.trans e2
 have hl2 := hl.ext e12; have hr2 := hr.ext e12
 refine count_call hl2 (S2.keeps 0 rfl (count_call hr2 (S2.keeps 0 rfl (tall_call hl2 (S2.keeps 0 rfl (tall_call hr2 (S2.keeps 0 rfl ?_)))))))
 have es : IntKind.wrap .i64 (IntKind.wrap .i64 ((l.size : Int) + 1) + (r.size : Int)) = (((l.size + 1 + r.size : Nat)) : Int) := by
  rw [wrap64 (a := (l.size : Int) + 1) (by omega) (by omega), wrap64 (by omega) (by omega)]; omega
 have et : IntKind.wrap .i64 ((if (r.tall : Int) > (l.tall : Int) then (r.tall : Int) else (l.tall : Int)) + 1) = ((max l.tall r.tall + 1 : Nat) : Int) := by
  have e : (if (r.tall : Int) > (l.tall : Int) then (r.tall : Int) else (l.tall : Int)) = ((max l.tall r.tall : Nat) : Int) := by split <;> omega
  rw [e, wrap64 (by omega) (by omega)]; omega
 rw [es, et]
 refine S2.newO fun b7 w3 S3 e3 => S3.lds 1 (pcT x) rfl (measure_x fun w4 e4 => nn_some ?_)
 have S4 := S3.ext e4
 have e14 := (e12.trans e3).trans e4
 have S4' : St (fun _ => False) w w4 [(b7, .cells (ncells l.ptr r.ptr x (l.size + 1 + r.size) (max l.tall r.tall + 1) .zero) 144 (0, 0)), (b1, .cells (Cells.vals c112 (pcT x)).toArray 112 (0, 0))] := S4
 refine agg_sum (s' := x.sm) S4' fun w5 S5 => ?_
 have J0 : ∀ (w' : World) (s : Sums), St (fun _ => False) w w' [(b7, .cells (ncells l.ptr r.ptr x (l.size + 1 + r.size) (max l.tall r.tall + 1) s) 144 (0, 0)), (b1, .cells (Cells.vals c112 (pcT x)).toArray 112 (0, 0))] →
   cellsAt w' ((at0 b7).add 11) 0 (Cells.vals c110 (smT s)) := by
  intro w' s S'
  rw [addr_add]
  refine cellsAt_of _ 0 fun j v hv => cell_of (S'.at_ 0 rfl) ?_
  match j, hv with
  | 0, hv => exact hv
  | 1, hv => exact hv
  | 2, hv => exact hv
  | 3, hv => exact hv
  | 4, hv => exact hv
  | j + 5, hv => cases hv
 have okt := tot_ok okl; have okt' := tot_ok okr
 refine join_r (fun _ w' => St (fun _ => False) w w' [(b7, .cells (ncells l.ptr r.ptr x (l.size + 1 + r.size) (max l.tall r.tall + 1) ((tot l.items).add x.sm)) 144 (0, 0)), (b1, .cells (Cells.vals c112 (pcT x)).toArray 112 (0, 0))]) ?_ ?_
 ·cases l with
  | nil => exact sif_r (fun h => by cases h) (fun _ => S5)
  | node bl ll xl rl =>
   refine sif_r (fun _ => S5.drew fun w6 S6 e6 _ => ?_) (fun h => by cases h)
   refine nd_sum (hl.ext S6.upd) (nn_some ⟨_, J0 w6 x.sm S6, ?_⟩)
   exact add_x okt okx (by omega) fun w7 e7 => nn_some (agg_sum (S6.ext e7) fun w8 S8 => S8)
 intro _ w6 S6
 have okm := Sums.add_ok okt okx
 have bm := (Sums.add_bytes _ _ okt okx).1
 have fin : (tot (l.items ++ x :: r.items)) = ((tot l.items).add x.sm).add (tot r.items) := by
  rw [ex, tot_append okl (AllOk.append (AllOk.one okx) okr), tot_append (AllOk.one okx) okr, tot_one okx, Sums.add_assoc okt okx okt']
 refine join_r (fun _ w' => St (fun _ => False) w w' [(b7, .cells (ncells l.ptr r.ptr x (l.size + 1 + r.size) (max l.tall r.tall + 1) (((tot l.items).add x.sm).add (tot r.items))) 144 (0, 0)), (b1, .cells (Cells.vals c112 (pcT x)).toArray 112 (0, 0))]) ?_ ?_
 ·cases r with
  | nil =>
   have e : ((tot l.items).add x.sm).add (tot (Tr.nil).items) = (tot l.items).add x.sm := Sums.add_zero okm
   rw [e]
   exact sif_r (fun h => by cases h) (fun _ => S6)
  | node br lr xr rr =>
   refine sif_r (fun _ => S6.drew fun w7 S7 e7 _ => ?_) (fun h => by cases h)
   refine nn_some ⟨_, J0 w7 _ S7, nd_sum (hr.ext S7.upd) ?_⟩
   exact add_x okm okt' (by omega) fun w8 e8 => nn_some (agg_sum (S7.ext e8) fun w9 S9 => S9)
 intro _ w7 S7
 refine hK b7 w7 ⟨?_, hl.ext S7.upd, hr.ext S7.upd⟩ S7.upd
 have := S7.at_ 0 rfl
 rw [← fin] at this
 exact this
end
section
variable {w w' : World} {S : Nat → Prop}
abbrev GivesT (w : World) (l : List Pc) (K : Option Addr → World → Prop) : Prop := ∀ (t : Tr) (w' : World), t.In w' → t.items = l → Ext w w' → K t.ptr w'
theorem GivesT.ext {l : List Pc} {K : Option Addr → World → Prop} (h : GivesT w l K) (e : Ext w w') : GivesT w' l K := fun t w2 h1 h2 e2 => h t w2 h1 h2 (e.trans e2)
theorem Fine.mid {a l b : List Pc} (h : Fine (a ++ (l ++ b))) : Fine l := h.right.left
theorem node_gives {l r : Tr} {x : Pc} {L : List Pc} (hl : l.In w) (hr : r.In w) (hf : Fine L) (hL : l.items ++ x :: r.items = L) {K : Option Addr → World → Prop} (hK : GivesT w L K) :
  callT Tryz.prog 120 #[.pointer l.ptr, pcV x, .pointer r.ptr] (.one (.one .ptr)) K w :=
 node_call hl hr (hL ▸ hf) fun b w' h1 e1 => hK _ _ h1 hL e1
theorem tall_gt {a b : Tr} (h : decide ((a.tall : Int) > IntKind.wrap .i64 ((b.tall : Int) + 1)) = true) (hb : b.tall < 2 ^ 60) : b.tall + 1 < a.tall := by
 rw [wrap64 (by omega) (by omega)] at h
 simp only [decide_eq_true_eq] at h
 omega
theorem even_call {l r : Tr} {x : Pc} (hl : l.In w) (hr : r.In w) (hf : Fine (l.items ++ x :: r.items)) {K : Option Addr → World → Prop} (hK : GivesT w (l.items ++ x :: r.items) K) :
  callT Tryz.prog 164 #[.pointer l.ptr, pcV x, .pointer r.ptr] (.one (.one .ptr)) K w := by
 refine F164_calls (a1 := pcT x) ?_
 unfold F164
 have few := hf.few
 rw [List.length_append, List.length_cons, size_items, size_items] at few
 have tl := tall_le l; have tr := tall_le r
 refine (St.start w).newO fun b1 w1 S1 e1 => ?_
 have hl1 := hl.ext e1; have hr1 := hr.ext e1
 refine tall_call hl1 (tall_call hr1 (sif_r (fun h => ?_) (fun h => ?_)))
 ·have hgt := tall_gt h (by omega)
  obtain ⟨bl, ll, lx, lr, rfl⟩ := tall_pos (t := l) (by omega)
  refine S1.drew fun w2 S2 e2 _ => ?_
  have hl2 := hl1.ext e2; have hr2 := hr1.ext e2
  refine nd_left hl2 (nd_right hl2 (tall_call hl2.2.1 (keep_r (nd_cell hl2 rfl) (tall_call hl2.2.2 (sif_r (fun h2 => ?_) (fun h2 => ?_))))))
  ·refine S2.drew fun w3 S3 e3 _ => ?_
   have hl3 := hl2.ext e3; have hr3 := hr2.ext e3
   refine nd_left hl3 (nd_item hl3 (nd_right hl3 (S3.lds 0 (pcT x) rfl ?_)))
   have e03 := (e1.trans e2).trans e3
   have eq : (Tr.node bl ll lx lr).items ++ x :: r.items = (ll.items ++ [lx]) ++ (lr.items ++ x :: r.items) := by simp [Tr.items]
   refine node_gives hl3.2.2 hr3 (L := lr.items ++ x :: r.items) ((eq ▸ hf).right) rfl fun t w4 ht hti e4 => ?_
   refine keep_r (item_at (hl3.ext e4)) (keep_r (nd_cell0 (hl3.ext e4)) ?_)
   exact node_gives (hl3.ext e4).2.1 ht hf (by rw [hti, eq]; simp) (hK.ext (e03.trans e4))
  ·simp only [decide_eq_false_iff_not, ge_iff_le] at h2
   obtain ⟨bm, ml, mx, mr, rfl⟩ := tall_pos (t := lr) (by omega)
   refine nd_right hl2 (S2.drew fun w3 S3 e3 _ => ?_)
   have hl3 := hl2.ext e3; have hr3 := hr2.ext e3
   have hm3 := hl3.2.2
   refine nd_left hl3 (nd_item hl3 (nd_left hm3 (nd_item hm3 (nd_right hm3 (S3.lds 0 (pcT x) rfl ?_)))))
   have e03 := (e1.trans e2).trans e3
   have eq : (Tr.node bl ll lx (Tr.node bm ml mx mr)).items ++ x :: r.items = (ll.items ++ lx :: ml.items) ++ ([mx] ++ (mr.items ++ x :: r.items)) := by simp [Tr.items]
   have hf' := eq ▸ hf
   refine node_gives hl3.2.1 hm3.2.1 (L := ll.items ++ lx :: ml.items) hf'.left rfl fun t w4 ht hti e4 => ?_
   have S4 := S3.ext e4
   have hm4 := hm3.ext e4
   refine S4.keeps 0 rfl (keep_r (nd_cell hm4 rfl) (keep_r (item_at hm4) ?_))
   refine node_gives hm4.2.2 (hr3.ext e4) (L := mr.items ++ x :: r.items) hf'.right.right rfl fun t2 w5 ht2 hti2 e5 => ?_
   refine keep_r (item_at (hm4.ext e5)) ?_
   exact node_gives (ht.ext e5) ht2 hf (by rw [hti, hti2, eq]; simp) (hK.ext ((e03.trans e4).trans e5))
 refine tall_call hr1 (tall_call hl1 (sif_r (fun h => ?_) (fun h => ?_)))
 ·have hgt := tall_gt h (by omega)
  obtain ⟨br, rl, rx, rr, rfl⟩ := tall_pos (t := r) (by omega)
  refine S1.drew fun w2 S2 e2 _ => ?_
  have hl2 := hl1.ext e2; have hr2 := hr1.ext e2
  refine nd_right hr2 (nd_left hr2 (tall_call hr2.2.2 (keep_r (nd_cell0 hr2) (tall_call hr2.2.1 (sif_r (fun h2 => ?_) (fun h2 => ?_))))))
  ·refine S2.drew fun w3 S3 e3 _ => ?_
   have hl3 := hl2.ext e3; have hr3 := hr2.ext e3
   refine S3.lds 0 (pcT x) rfl (nd_left hr3 (nd_item hr3 (nd_right hr3 ?_)))
   have e03 := (e1.trans e2).trans e3
   have eq : l.items ++ x :: (Tr.node br rl rx rr).items = (l.items ++ x :: rl.items) ++ (rx :: rr.items) := by simp [Tr.items]
   refine node_gives hl3 hr3.2.1 (L := l.items ++ x :: rl.items) ((eq ▸ hf).left) rfl fun t w4 ht hti e4 => ?_
   refine keep_r (nd_cell (hr3.ext e4) rfl) (keep_r (item_at (hr3.ext e4)) ?_)
   exact node_gives ht (hr3.ext e4).2.2 hf (by rw [hti, eq]) (hK.ext (e03.trans e4))
  ·simp only [decide_eq_false_iff_not, ge_iff_le] at h2
   obtain ⟨bm, ml, mx, mr, rfl⟩ := tall_pos (t := rl) (by omega)
   refine nd_left hr2 (S2.drew fun w3 S3 e3 _ => ?_)
   have hl3 := hl2.ext e3; have hr3 := hr2.ext e3
   have hm3 := hr3.2.1
   refine S3.lds 0 (pcT x) rfl (nd_left hm3 (nd_item hm3 (nd_right hm3 (nd_item hr3 (nd_right hr3 ?_)))))
   have e03 := (e1.trans e2).trans e3
   have eq : l.items ++ x :: (Tr.node br (Tr.node bm ml mx mr) rx rr).items = (l.items ++ x :: ml.items) ++ ([mx] ++ (mr.items ++ rx :: rr.items)) := by simp [Tr.items]
   have hf' := eq ▸ hf
   refine node_gives hl3 hm3.2.1 (L := l.items ++ x :: ml.items) hf'.left rfl fun t w4 ht hti e4 => ?_
   have hm4 := hm3.ext e4; have hr4 := hr3.ext e4
   refine keep_r (nd_cell hr4 rfl) (keep_r (item_at hr4) (keep_r (nd_cell hm4 rfl) (keep_r (item_at hm4) ?_)))
   refine node_gives hm4.2.2 hr4.2.2 (L := mr.items ++ rx :: rr.items) hf'.right.right rfl fun t2 w5 ht2 hti2 e5 => ?_
   refine keep_r (item_at (hm4.ext e5)) ?_
   exact node_gives (ht.ext e5) ht2 hf (by rw [hti, hti2, eq]; simp) (hK.ext ((e03.trans e4).trans e5))
 exact S1.lds 0 (pcT x) rfl (node_gives hl1 hr1 hf rfl (hK.ext e1))
theorem join_call : ∀ (n : Nat) {l r : Tr} {w : World} {x : Pc}, l.tall + r.tall ≤ n → l.In w → r.In w → Fine (l.items ++ x :: r.items) → ∀ {K : Option Addr → World → Prop}, GivesT w (l.items ++ x :: r.items) K →
  callT Tryz.prog 156 #[.pointer l.ptr, pcV x, .pointer r.ptr] (.one (.one .ptr)) K w := by
 intro n
 induction n with
 | zero =>
  intro l r w x hn hl hr hf K hK
  refine F156_calls (a1 := pcT x) ?_
  unfold F156
  have h0 : l.tall = 0 := by omega
  have h1 : r.tall = 0 := by omega
  refine (St.start w).newO fun b1 w1 S1 e1 => ?_
  have hl1 := hl.ext e1; have hr1 := hr.ext e1
  refine tall_call hl1 (tall_call hr1 (sif_r (fun h => ?_) (fun _ => tall_call hr1 (tall_call hl1 (sif_r (fun h => ?_) (fun _ => ?_))))))
  ·have := tall_gt h (by omega); omega
  ·have := tall_gt h (by omega); omega
  ·exact S1.lds 0 (pcT x) rfl (node_gives hl1 hr1 hf rfl (hK.ext e1))
 | succ n ih =>
  intro l r w x hn hl hr hf K hK
  refine F156_calls (a1 := pcT x) ?_
  unfold F156
  have few := hf.few
  rw [List.length_append, List.length_cons, size_items, size_items] at few
  have tl := tall_le l; have tr := tall_le r
  refine (St.start w).newO fun b1 w1 S1 e1 => ?_
  have hl1 := hl.ext e1; have hr1 := hr.ext e1
  refine tall_call hl1 (tall_call hr1 (sif_r (fun h => ?_) (fun _ => tall_call hr1 (tall_call hl1 (sif_r (fun h => ?_) (fun _ => ?_))))))
  ·have hgt := tall_gt h (by omega)
   obtain ⟨bl, ll, lx, lr, rfl⟩ := tall_pos (t := l) (by omega)
   refine S1.drew fun w2 S2 e2 _ => ?_
   have hl2 := hl1.ext e2; have hr2 := hr1.ext e2
   refine nd_left hl2 (nd_item hl2 (nd_right hl2 (S2.lds 0 (pcT x) rfl ?_)))
   have eq : (Tr.node bl ll lx lr).items ++ x :: r.items = (ll.items ++ [lx]) ++ (lr.items ++ x :: r.items) := by simp [Tr.items]
   have ht : (Tr.node bl ll lx lr).tall = max ll.tall lr.tall + 1 := rfl
   refine ih (l := lr) (r := r) (by omega) hl2.2.2 hr2 ((eq ▸ hf).right) fun t w3 ht3 hti e3 => ?_
   refine keep_r (item_at (hl2.ext e3)) (keep_r (nd_cell0 (hl2.ext e3)) ?_)
   have eq2 : ll.items ++ lx :: t.items = (Tr.node bl ll lx lr).items ++ x :: r.items := by rw [hti, eq]; simp
   exact even_call (hl2.ext e3).2.1 ht3 (eq2 ▸ hf) (eq2 ▸ hK.ext ((e1.trans e2).trans e3))
  ·have hgt := tall_gt h (by omega)
   obtain ⟨br, rl, rx, rr, rfl⟩ := tall_pos (t := r) (by omega)
   refine S1.drew fun w2 S2 e2 _ => ?_
   have hl2 := hl1.ext e2; have hr2 := hr1.ext e2
   refine S2.lds 0 (pcT x) rfl (nd_left hr2 (nd_item hr2 (nd_right hr2 ?_)))
   have eq : l.items ++ x :: (Tr.node br rl rx rr).items = (l.items ++ x :: rl.items) ++ (rx :: rr.items) := by simp [Tr.items]
   have ht : (Tr.node br rl rx rr).tall = max rl.tall rr.tall + 1 := rfl
   refine ih (l := l) (r := rl) (by omega) hl2 hr2.2.1 ((eq ▸ hf).left) fun t w3 ht3 hti e3 => ?_
   refine keep_r (nd_cell (hr2.ext e3) rfl) (keep_r (item_at (hr2.ext e3)) ?_)
   have eq2 : t.items ++ rx :: rr.items = l.items ++ x :: (Tr.node br rl rx rr).items := by rw [hti, eq]
   exact even_call ht3 (hr2.ext e3).2.2 (eq2 ▸ hf) (eq2 ▸ hK.ext ((e1.trans e2).trans e3))
  ·exact S1.lds 0 (pcT x) rfl (node_gives hl1 hr1 hf rfl (hK.ext e1))
end
section
variable {w w' : World} {S : Nat → Prop}
theorem cut_call : ∀ (t : Tr) (w : World) (n : Nat), t.In w → Fine t.items → n < 2 ^ 61 → ∀ {K : Option Addr × Option Addr × Unit → World → Prop},
  (∀ (a b : Tr) (w' : World), a.In w' → b.In w' → a.items = t.items.take n → b.items = t.items.drop n → Ext w w' → K (a.ptr, b.ptr, ()) w') →
  callT Tryz.prog 143 #[.pointer t.ptr, .int .i64 (n : Int)] (.tup [(.one .ptr), (.one .ptr)]) K w := by
 intro t
 induction t with
 | nil =>
  intro w n ht hf hn K hK
  refine F143_calls ?_
  unfold F143
  exact sif_r (fun _ => hK .nil .nil w trivial trivial (by simp [Tr.items]) (by simp [Tr.items]) (Ext.refl w)) (fun h => by cases h)
 | node b l x r ihl ihr =>
  intro w n ht hf hn K hK
  refine F143_calls ?_
  unfold F143
  have hfl : Fine l.items := hf.left
  have hfr : Fine r.items := Fine.right (l := [x]) hf.right
  have sl := size_items l
  have few := hfl.few
  refine sif_r (fun h => by cases h) (fun _ => nd_left ht (count_call ht.2.1 (sif_r (fun h => ?_) (fun h => ?_))))
  ·simp only [decide_eq_true_eq] at h
   refine nd_left ht (ihl w n ht.2.1 hfl hn fun p q w1 hp hq hpi hqi e1 => drew_r fun w2 e2 _ => ?_)
   have ht2 := (ht.ext e1).ext e2
   refine nd_item ht2 (nd_right ht2 ?_)
   have hle : n ≤ l.items.length := by omega
   have eq : q.items ++ x :: r.items = (Tr.node b l x r).items.drop n := by
    show _ = (l.items ++ x :: r.items).drop n
    rw [List.drop_append_of_le_length hle, hqi]
   have hfq : Fine (q.items ++ x :: r.items) := by
    rw [eq]
    have e := List.take_append_drop n (Tr.node b l x r).items
    exact Fine.right (l := (Tr.node b l x r).items.take n) (e.symm ▸ hf)
   refine join_call _ (Nat.le_refl _) (hq.ext e2) ht2.2.2 hfq fun t3 w3 h3 h3i e3 => ?_
   refine hK p t3 w3 ((hp.ext e2).ext e3) h3 ?_ (by rw [h3i, eq]) ((e1.trans e2).trans e3)
   show _ = (l.items ++ x :: r.items).take n
   rw [List.take_append_of_le_length hle, hpi]
  ·simp only [decide_eq_false_iff_not] at h
   obtain ⟨m, rfl⟩ : ∃ m, n = l.items.length + 1 + m := ⟨n - l.items.length - 1, by omega⟩
   have ew : IntKind.wrap .i64 (IntKind.wrap .i64 (((l.items.length + 1 + m : Nat) : Int) - (l.size : Int)) - 1) = (m : Int) := by
    rw [wrap64 (a := ((l.items.length + 1 + m : Nat) : Int) - (l.size : Int)) (by omega) (by omega), wrap64 (by omega) (by omega)]; omega
   rw [ew]
   refine nd_right ht (ihr w m ht.2.2 hfr (by omega) fun p q w1 hp hq hpi hqi e1 => drew_r fun w2 e2 _ => ?_)
   have ht2 := (ht.ext e1).ext e2
   refine nd_left ht2 (nd_item ht2 ?_)
   have tk : (l.items ++ x :: r.items).take (l.items.length + 1 + m) = l.items ++ x :: r.items.take m := by
    rw [Nat.add_assoc, List.take_length_add_append, Nat.add_comm 1 m, List.take_succ_cons]
   have dr : (l.items ++ x :: r.items).drop (l.items.length + 1 + m) = r.items.drop m := by
    rw [Nat.add_assoc, List.drop_length_add_append, Nat.add_comm 1 m, List.drop_succ_cons]
   have eq : l.items ++ x :: p.items = (Tr.node b l x r).items.take (l.items.length + 1 + m) := by
    show _ = (l.items ++ x :: r.items).take _
    rw [tk, hpi]
   have hfq : Fine (l.items ++ x :: p.items) := by
    rw [eq]
    have e := List.take_append_drop (l.items.length + 1 + m) (Tr.node b l x r).items
    exact Fine.left (m := (Tr.node b l x r).items.drop (l.items.length + 1 + m)) (e.symm ▸ hf)
   refine join_call _ (Nat.le_refl _) ht2.2.1 (hp.ext e2) hfq fun t3 w3 h3 h3i e3 => ?_
   refine hK t3 q w3 h3 ((hq.ext e2).ext e3) (by rw [h3i, eq]) ?_ ((e1.trans e2).trans e3)
   show _ = (l.items ++ x :: r.items).drop _
   rw [dr, hqi]
theorem first_call : ∀ (l : Tr) (b : Nat) (x : Pc) (r : Tr) (w : World), (Tr.node b l x r).In w → Fine (Tr.node b l x r).items → ∀ {K : Cells.T c112 × Option Addr × Unit → World → Prop},
  (∀ (y : Pc) (t : Tr) (w' : World), t.In w' → y :: t.items = (Tr.node b l x r).items → Ext w w' → K (pcT y, t.ptr, ()) w') →
  callT Tryz.prog 157 #[.pointer (Tr.node b l x r).ptr] (.tup [(.agg c112), (.one .ptr)]) K w := by
 intro l
 induction l with
 | nil =>
  intro b x r w ht hf K hK
  refine F157_calls ?_
  unfold F157
  refine (St.start w).newO fun b1 w1 S1 e1 => nd_left (ht.ext e1) (sif_r (fun _ => S1.drew fun w2 S2 e2 _ => ?_) (fun h => by cases h))
  have ht2 := (ht.ext e1).ext e2
  refine nd_item ht2 (nd_right ht2 (S2.aggSt 0 rfl rfl rfl rfl fun w3 S3 u3 => ?_))
  exact keep_r (nd_cell (ht.ext S3.upd) rfl) (S3.lds 0 (pcT x) rfl (hK x r w3 (ht.ext S3.upd).2.2 rfl S3.upd))
 | node bl ll lx lr ih _ =>
  intro b x r w ht hf K hK
  refine F157_calls ?_
  unfold F157
  have hfl : Fine (Tr.node bl ll lx lr).items := hf.left
  refine (St.start w).newO fun b1 w1 S1 e1 => nd_left (ht.ext e1) (sif_r (fun h => by cases h) (fun _ => nd_left (ht.ext e1) ?_))
  refine ih bl lx lr w1 (ht.ext e1).2.1 hfl fun y t w2 h2 h2i e2 => ?_
  refine (S1.ext e2).newAgg rfl rfl rfl fun b2 w3 S3 e3 => S3.drew fun w4 S4 e4 _ => S4.lds 0 (pcT y) rfl ?_
  have e14 := ((e1.trans e2).trans e3).trans e4
  have ht4 := ht.ext e14
  have eq : (Tr.node b (Tr.node bl ll lx lr) x r).items = [y] ++ (t.items ++ x :: r.items) := by
   show (Tr.node bl ll lx lr).items ++ x :: r.items = _
   rw [← h2i]; rfl
  refine nd_item ht4 (nd_right ht4 (even_call ((h2.ext e3).ext e4) ht4.2.2 ((eq ▸ hf).right) fun t5 w5 h5 h5i e5 => ?_))
  have S5 := S4.ext e5
  refine S5.keeps 0 rfl (S5.aggSt 1 rfl rfl rfl rfl fun w6 S6 u6 => S6.lds 1 (pcT y) rfl ?_)
  refine hK y t5 w6 (h5.ty u6 ?_) (by rw [h5i, eq]; rfl) S6.upd
  rintro k rfl c fr hc
  have := S5.at_ 1 rfl
  rw [hc] at this; cases this
theorem both_call {l r : Tr} (hl : l.In w) (hr : r.In w) (hf : Fine (l.items ++ r.items)) {K : Option Addr → World → Prop} (hK : GivesT w (l.items ++ r.items) K) :
  callT Tryz.prog 144 #[.pointer l.ptr, .pointer r.ptr] (.one (.one .ptr)) K w := by
 refine F144_calls ?_
 unfold F144
 cases r with
 | nil => exact sif_r (fun _ => hK l w hl (by simp [Tr.items]) (Ext.refl w)) (fun h => by cases h)
 | node b rl rx rr =>
  refine sif_r (fun h => by cases h) (fun _ => first_call rl b rx rr w hr hf.right fun y t w1 h1 h1i e1 => ?_)
  refine (St.start w1).newAgg rfl rfl rfl fun b2 w2 S2 e2 => S2.lds 0 (pcT y) rfl ?_
  have eq : l.items ++ y :: t.items = l.items ++ (Tr.node b rl rx rr).items := by rw [h1i]
  exact join_call _ (Nat.le_refl _) (hl.ext (e1.trans e2)) (h1.ext e2) (eq ▸ hf) (eq ▸ hK.ext (e1.trans e2))
end
section
variable {w w' : World} {S : Nat → Prop}
theorem flat_drop (cs : List Cell) : ∀ (xs : List (Cells.T cs)) (n : Nat), (flat cs xs).drop (n * cs.length) = flat cs (xs.drop n)
 | xs, 0 => by simp
 | [], n + 1 => by simp [flat]
 | x :: xs, n + 1 => by
  have e : flat cs (x :: xs) = Cells.vals cs x ++ flat cs xs := rfl
  rw [e, Nat.add_mul, Nat.one_mul, Nat.add_comm, ← List.drop_drop, ← vals_len cs x, List.drop_left, List.drop_succ_cons, vals_len cs x]
  exact flat_drop cs xs n
theorem flat_take (cs : List Cell) : ∀ (xs : List (Cells.T cs)) (n : Nat), (flat cs xs).take (n * cs.length) = flat cs (xs.take n)
 | xs, 0 => by simp [flat]
 | [], n + 1 => by simp [flat]
 | x :: xs, n + 1 => by
  have e : flat cs (x :: xs) = Cells.vals cs x ++ flat cs xs := rfl
  have e2 : flat cs ((x :: xs).take (n + 1)) = Cells.vals cs x ++ flat cs (xs.take n) := rfl
  rw [e, e2, Nat.add_mul, Nat.one_mul, Nat.add_comm, ← vals_len cs x, List.take_length_add_append, vals_len cs x, flat_take cs xs n]
abbrev Ps (w : World) (s : Sl) (l : List Pc) : Prop := SlIn w s 112 7 (flat c112 (l.map pcT))
theorem Ps.len {s : Sl} {l : List Pc} (h : Ps w s l) : l.length = s.len := by
 have := SlIn.lenR (cs := c112) h (by decide)
 rwa [List.length_map] at this
theorem slc_ps {s : Sl} {l : List Pc} {a b m : Int} {K : Sl → World → Prop} (hs : Ps w s l) (h0 : 0 ≤ a) (h1 : a ≤ b) (h2 : b ≤ s.len) (h3 : b ≤ m) (h4 : m ≤ s.cap)
  (hK : ∀ s', Ps w s' ((l.drop a.toNat).take (b.toNat - a.toNat)) → K s' w) : slc s.a a b m s.cap 7 K w :=
 slc_r hs h0 h1 h2 h3 h4 fun s' hs' _ _ _ => hK s' (by
  have e1 := flat_drop c112 (l.map pcT) a.toNat
  have e2 := flat_take c112 ((l.map pcT).drop a.toNat) (b.toNat - a.toNat)
  rw [show c112.length = 7 from rfl] at e1 e2
  rw [e1, e2, ← List.map_drop, ← List.map_take] at hs'
  exact hs')
theorem ix_ldsk {cs : List Cell} {s : Sl} {t : TypeId} {xs : List (Cells.T cs)} {n : Int} {K : Addr → Cells.T cs → World → Prop} (h : SlIn w s t cs.length (flat cs xs)) (hc : 0 < cs.length) (h0 : 0 ≤ n) {x : Cells.T cs} (hx : xs[n.toNat]? = some x)
  (hK : ∀ p, (∀ w', Ext w w' → cellsAt w' (p.add (scaled (Int.toNat n) cs.length)) 0 (Cells.vals cs x)) → K p x w) :
  ix s.a s.len n (fun p => lds cs (p.add (scaled (Int.toNat n) cs.length)) (K p)) w := by
 have hlt := (List.getElem?_eq_some_iff.1 hx).1
 have hl := h.lenR hc
 have key : ∀ {w' : World}, SlIn w' s t cs.length (flat cs xs) → ∀ b off, s.a = some ⟨b, off, none⟩ → cellsAt w' ((⟨b, off, none⟩ : Addr).add (scaled (Int.toNat n) cs.length)) 0 (Cells.vals cs x) := by
  intro w' h' b off ha
  rcases h'.at_ with ⟨hn, _⟩ | ⟨b', off', c, fr, ha', hb, _, hv⟩
  ·rw [hn] at ha; cases ha
  ·rw [ha'] at ha; cases ha
   rw [addr_add]
   refine cellsAt_of _ 0 fun j v hj => ?_
   have hjl : j < cs.length := by
    have := (List.getElem?_eq_some_iff.1 hj).1
    rwa [vals_len] at this
   have h2 := hv (n.toNat * cs.length + j) v (by rw [flat_get cs xs _ j x hx hjl]; exact hj)
   refine cell_of hb ?_
   rw [scaled_eq, show off + n.toNat * cs.length + (0 + j) = off + (n.toNat * cs.length + j) by omega]
   exact h2
 refine h.ix h0 (by omega) hc fun b off ha hv => ⟨x, key h b off ha, hK _ fun w' e => key (h.ext e) b off ha⟩
theorem build_call : ∀ (n : Nat) (l : List Pc) (s : Sl) (w : World), l.length ≤ n → Ps w s l → Fine l → ∀ {K : Option Addr → World → Prop}, GivesT w l K → callT Tryz.prog 88 #[.slice s.a s.len s.cap] (.one (.one .ptr)) K w := by
 intro n
 induction n with
 | zero =>
  intro l s w hn hs hf K hK
  obtain rfl : l = [] := List.length_eq_zero_iff.1 (by omega)
  have hl := hs.len
  refine F88_calls ?_
  unfold F88
  exact sif_r (fun _ => hK .nil w trivial rfl (Ext.refl w)) (fun h => by simp at hl; simp [← hl] at h)
 | succ n ih =>
  intro l s w hn hs hf K hK
  have hl := hs.len
  have hcap := hs.le
  have few := hf.few
  refine F88_calls ?_
  unfold F88
  refine sif_r (fun h => ?_) (fun h => chk_r (by decide) (drew_r fun w1 e1 _ => ?_))
  ·simp only [beq_iff_eq] at h
   obtain rfl : l = [] := List.length_eq_zero_iff.1 (by omega)
   exact hK .nil w trivial rfl (Ext.refl w)
  simp only [beq_eq_false_iff_ne] at h
  have hs1 : Ps w1 s l := hs.ext e1
  obtain ⟨k, hk⟩ : ∃ k, k = l.length / 2 := ⟨_, rfl⟩
  have ek : IntKind.wrap .i64 (Int.tdiv ((s.len : Nat) : Int) 2) = (k : Int) := by
   rw [Int.tdiv_eq_ediv_of_nonneg (by omega), wrap64 (by omega) (by omega)]; omega
  have ek1 : IntKind.wrap .i64 ((k : Int) + 1) = ((k + 1 : Nat) : Int) := by rw [wrap64 (by omega) (by omega)]; omega
  rw [ek, ek1]
  have hkl : k < l.length := by omega
  refine slc_ps hs1 (by decide) (by omega) (by omega) (by omega) (by omega) fun s1 h1 => ?_
  refine ix_ldsk (cs := c112) (xs := l.map pcT) hs1 (by decide) (by omega) (x := pcT l[k]) (by rw [Int.toNat_natCast, List.getElem?_map, List.getElem?_eq_getElem hkl]; rfl) fun p hp => ?_
  refine slc_ps hs1 (by omega) (by omega) (by omega) (by omega) (by omega) fun s2 h2 => ?_
  have t1 : (l.drop (0 : Int).toNat).take ((k : Int).toNat - (0 : Int).toNat) = l.take k := by simp
  have t2 : (l.drop ((k + 1 : Nat) : Int).toNat).take (((s.len : Nat) : Int).toNat - ((k + 1 : Nat) : Int).toNat) = l.drop (k + 1) := by
   rw [Int.toNat_natCast, Int.toNat_natCast]
   have : s.len - (k + 1) = (l.drop (k + 1)).length := by rw [List.length_drop]; omega
   rw [this, List.take_length]
  rw [t1] at h1
  rw [t2] at h2
  have eq : l.take k ++ l[k] :: l.drop (k + 1) = l := by rw [← List.drop_eq_getElem_cons hkl, List.take_append_drop]
  have hf' := eq.symm ▸ hf
  refine ih (l.take k) s1 w1 (by rw [List.length_take]; omega) h1 hf'.left fun a w2 ha hai e2 => keep_r (hp w2 e2) ?_
  refine ih (l.drop (k + 1)) s2 w2 (by rw [List.length_drop]; omega) (SlIn.ext h2 e2) (Fine.right (l := [l[k]]) hf'.right) fun b w3 hb hbi e3 => keep_r (hp w3 (e2.trans e3)) ?_
  exact node_gives (ha.ext e3) hb hf (by rw [hai, hbi, eq]) (hK.ext ((e1.trans e2).trans e3))
abbrev trV (t : Tr) : Value := .agg (Cells.vals c105 (t.ptr, ())).toArray
theorem treeOf_call {l : List Pc} {s : Sl} (hs : Ps w s l) (hf : Fine l) {K : Cells.T c105 → World → Prop} (hK : ∀ (t : Tr) (w' : World), t.In w' → t.items = l → Ext w w' → K (t.ptr, ()) w') :
  callT Tryz.prog 65 #[.slice s.a s.len s.cap] (.one (.agg c105)) K w := by
 refine F65_calls ?_
 unfold F65
 refine (St.start w).newO fun b1 w1 S1 e1 => build_call _ l s w1 (Nat.le_refl _) (SlIn.ext hs e1) hf fun t w2 ht hti e2 => ?_
 refine (S1.ext e2).aggSt 0 rfl rfl rfl rfl fun w3 S3 u3 => S3.lds 0 (t.ptr, ()) rfl (hK t w3 (ht.ty u3 ?_) hti S3.upd)
 rintro k rfl c fr hc
 have := (S1.ext e2).at_ 0 rfl
 rw [hc] at this; cases this
theorem tsize_call {t : Tr} (ht : t.In w) {K : Int → World → Prop} (hK : ∀ w', Ext w w' → K (t.items.length : Int) w') : callT Tryz.prog 115 #[trV t] (.one (.one (.int .i64))) K w := by
 refine F115_calls (a0 := (t.ptr, ())) ?_
 unfold F115
 refine (St.start w).newO fun b1 w1 S1 e1 => S1.ld 0 rfl (x := t.ptr) rfl (count_call (ht.ext e1) ?_)
 rw [← size_items]
 exact hK w1 e1
theorem tsum_call {t : Tr} (ht : t.In w) {K : Cells.T c110 → World → Prop} (hK : ∀ w', Ext w w' → K (smT (tot t.items)) w') : callT Tryz.prog 70 #[trV t] (.one (.agg c110)) K w := by
 refine F70_calls (a0 := (t.ptr, ())) ?_
 unfold F70
 refine (St.start w).newO fun b1 w1 S1 e1 => S1.newO fun b2 w2 S2 e2 => S2.ld 1 rfl (x := t.ptr) rfl ?_
 cases t with
 | nil =>
  refine sif_r (fun _ => S2.newO fun b3 w3 S3 e3 => S3.lds 0 (smT .zero) rfl (S3.aggSt 1 rfl rfl rfl rfl fun w4 S4 u4 => S4.lds 1 (smT .zero) rfl (hK w4 S4.upd))) (fun h => by cases h)
 | node b l x r =>
  refine sif_r (fun h => by cases h) (fun _ => S2.ld 1 rfl (x := (Tr.node b l x r).ptr) rfl (nd_sum (ht.ext S2.upd) ?_))
  exact S2.aggSt 0 rfl rfl rfl rfl fun w3 S3 u3 => S3.lds 0 (smT (tot (Tr.node b l x r).items)) rfl (hK w3 S3.upd)
theorem replace_call {t : Tr} {n m : Nat} {l : List Pc} {s : Sl} (ht : t.In w) (hs : Ps w s l) (hf : Fine t.items) (hfl : Fine l) (hnm : n ≤ m) (hm : m ≤ t.items.length) (hF : Fine (t.items.take n ++ l ++ t.items.drop m))
  {K : Cells.T c105 × Int × Unit → World → Prop} (hK : ∀ (t' : Tr) (w' : World), t'.In w' → t'.items = t.items.take n ++ l ++ t.items.drop m → Ext w w' → K ((t'.ptr, ()), 0, ()) w') :
  callT Tryz.prog 114 #[trV t, .int .i64 (n : Int), .int .i64 (m : Int), .slice s.a s.len s.cap] (.tup [(.agg c105), (.one (.int .i64))]) K w := by
 refine F114_calls (a0 := (t.ptr, ())) ?_
 unfold F114
 have few := hf.few
 refine (St.start w).newO fun b1 w1 S1 e1 => S1.newO fun b2 w2 S2 e2 => ?_
 refine join_r (fun x w' => x = (false, ()) ∧ Ext w2 w') (sif_r (fun h => ?_) (fun _ => sif_r (fun h => ?_) (fun _ => S2.lds 1 (t.ptr, ()) rfl (tsize_call (ht.ext S2.upd) fun w3 e3 => ⟨?_, e3⟩)))) ?_
 ·simp only [decide_eq_true_eq] at h; omega
 ·simp only [decide_eq_true_eq, gt_iff_lt] at h; omega
 ·rw [decide_eq_false (by omega)]
 rintro _ w3 ⟨rfl, e3⟩
 have S3 := S2.ext e3
 refine sif_r (fun h => by cases h) (fun _ => S3.ld 1 rfl (x := t.ptr) rfl ?_)
 refine cut_call t w3 n (ht.ext S3.upd) hf (by omega) fun a a' w4 ha _ hai _ e4 => ?_
 have S4 := S3.ext e4
 refine S4.ld 1 rfl (x := t.ptr) rfl (cut_call t w4 m (ht.ext S4.upd) hf (by omega) fun c' c w5 _ hc _ hci e5 => ?_)
 have S5 := S4.ext e5
 refine build_call _ l s w5 (Nat.le_refl _) (SlIn.ext hs S5.upd) hfl fun p w6 hp hpi e6 => ?_
 refine both_call ((ha.ext e5).ext e6) hp (by rw [hai, hpi]; exact hF.left) fun q w7 hq hqi e7 => ?_
 refine both_call hq ((hc.ext e6).ext e7) (by rw [hqi, hai, hpi, hci]; exact hF) fun t' w8 ht' hti e8 => ?_
 have S8 := S5.ext ((e6.trans e7).trans e8)
 refine S8.aggSt 0 rfl rfl rfl rfl fun w9 S9 u9 => S9.lds 0 (t'.ptr, ()) rfl (hK t' w9 (ht'.ty u9 ?_) (by rw [hti, hqi, hai, hpi, hci]) S9.upd)
 rintro k rfl c fr hc
 have := S8.at_ 0 rfl
 rw [hc] at this; cases this
end
section
variable {w w' : World} {S : Nat → Prop}
def szAt (w : World) : Option Addr → Nat
 | none => 0
 | some a => match w.cell? (a.add 9) with
  | some (.int _ n) => n.toNat
  | _ => 0
theorem szAt_eq {t : Tr} (h : t.In w) : szAt w t.ptr = t.size := by
 cases t with
 | nil => rfl
 | node b l x r =>
  have := nd_cell h (j := 9) (v := .int .i64 ((Tr.node b l x r).size : Int)) rfl
  show (match w.cell? ((at0 b).add 9) with | some (.int _ n) => n.toNat | _ => 0) = _
  rw [this]
  exact Int.toNat_natCast _
theorem Fine.part {a l b : List Pc} {L : List Pc} (h : Fine L) (e : L = a ++ (l ++ b)) : Fine l := (e ▸ h).mid
theorem upto_call {t : Tr} {n : Nat} (ht : t.In w) (hf : Fine t.items) (hn : n < 2 ^ 62) {K : Cells.T c110 → World → Prop} (hK : ∀ w', Ext w w' → K (smT (tot (t.items.take n))) w') :
  callT Tryz.prog 91 #[trV t, .int .i64 (n : Int)] (.one (.agg c110)) K w := by
 refine F91_calls (a0 := (t.ptr, ())) ?_
 unfold F91
 have few := hf.few
 refine (St.start w).newO fun b1 w1 S1 e1 => S1.newO fun b2 w2 S2 e2 => S2.newO fun b3 w3 S3 e3 => S3.lds 2 (t.ptr, ()) rfl (tsize_call (ht.ext S3.upd) fun w4 e4 => ?_)
 have S4 := S3.ext e4
 have e0 : (if ((t.items.length : Nat) : Int) < (n : Int) then ((t.items.length : Nat) : Int) else (n : Int)) = ((min n t.items.length : Nat) : Int) := by split <;> omega
 rw [e0]
 have tk : t.items.take n = t.items.take (min n t.items.length) := List.take_eq_take_iff.2 (by omega)
 rw [tk] at hK
 generalize hm : min n t.items.length = m at *
 have hml : m ≤ t.items.length := by omega
 let z2 : Nat × Obj := (b2, .cells #[(.int .i64 (0 : Int)), (.int .i64 (0 : Int)), (.int .i64 (0 : Int)), (.bool false), (.bool false)] 110 (0, 0))
 let z1 : Nat × Obj := (b1, .cells (Cells.vals c105 (t.ptr, ())).toArray 105 (0, 0))
 refine join_r (fun _ w' => St (fun _ => False) w w' [(b3, .cells (Cells.vals c110 (smT (tot (t.items.take m)))).toArray 110 (0, 0)), z2, z1]) ?_ ?_
 ·refine S4.ld 2 rfl (x := t.ptr) rfl ?_
  refine sloop_r (fun x w' => ∃ (i : Nat) (t' : Tr) (a : List Pc) (r : List Pc), x = ((i : Int), t'.ptr, ()) ∧ t'.In w ∧ t.items = a ++ (t'.items ++ r) ∧ i ≤ t'.items.length ∧ t.items.take m = a ++ t'.items.take i ∧
   St (fun _ => False) w w' [(b3, .cells (Cells.vals c110 (smT (tot a))).toArray 110 (0, 0)), z2, z1]) (fun x w' => szAt w' x.2.1) ⟨m, t, [], [], rfl, ht, by simp, hml, by simp, S4⟩ ?_
  rintro _ w5 ⟨i, t', a, r, rfl, htw, eq, hi, etk, S5⟩
  have ht' := htw.ext S5.upd
  have hfa := (eq ▸ hf.ok).left
  have hft : Fine t'.items := Fine.part hf eq
  have small := hf.small
  rw [eq, tot_app_bytes hfa (eq ▸ hf.ok).right, tot_app_bytes (eq ▸ hf.ok).right.left (eq ▸ hf.ok).right.right] at small
  refine join_r (fun x w' => x = (decide (0 < i), ()) ∧ w5 = w') ?_ ?_
  ·cases t' with
   | nil =>
    have : i = 0 := by simpa [Tr.items] using hi
    exact sif_r (fun h => by cases h) (fun _ => ⟨by rw [decide_eq_false (by omega)], rfl⟩)
   | node b l x rr =>
    refine sif_r (fun _ => ⟨tupb ?_, rfl⟩) (fun h => by cases h)
    simp only [decide_eq_true_eq, gt_iff_lt]; omega
  rintro _ w' ⟨rfl, rfl⟩
  refine sif_r (fun h => ?_) (fun h => ?_)
  ·simp only [decide_eq_true_eq] at h
   obtain ⟨b, l, x, rr, rfl⟩ : ∃ b l x rr, t' = .node b l x rr := by
    cases t' with
    | nil => simp [Tr.items] at hi; omega
    | node b l x rr => exact ⟨b, l, x, rr, rfl⟩
   have sl := size_items l
   have srr := size_items rr
   have hti : (Tr.node b l x rr).items = l.items ++ x :: rr.items := rfl
   have hlen : (Tr.node b l x rr).items.length = l.items.length + 1 + rr.items.length := by rw [hti]; simp; omega
   have few' := hft.few
   have okl : AllOk l.items := hft.ok.left
   have okx : x.sm.Ok := hft.ok.right.head
   have okr : AllOk rr.items := hft.ok.right.tail
   have sm2 : (tot (Tr.node b l x rr).items).bytes = (tot l.items).bytes + (x.sm.bytes + (tot rr.items).bytes) := by
    rw [hti, tot_app_bytes okl (AllOk.cons okx okr)]
    have ex : x :: rr.items = [x] ++ rr.items := rfl
    rw [ex, tot_app_bytes (AllOk.one okx) okr, tot_one okx]
   have okta := tot_ok hfa
   refine nd_left ht' (count_call ht'.2.1 (sif_r (fun h2 => ?_) (fun h2 => ?_)))
   ·simp only [decide_eq_true_eq] at h2
    refine nd_left ht' ⟨⟨i, l, a, x :: rr.items ++ r, rfl, htw.2.1, by rw [eq, hti]; simp, by omega, ?_, S5⟩, ?_⟩
    ·rw [etk, hti, List.take_append_of_le_length (by omega)]
    ·dsimp only
     rw [szAt_eq ht', szAt_eq ht'.2.1]
     show l.size < l.size + 1 + rr.size
     omega
   ·simp only [decide_eq_false_iff_not] at h2
    refine join_r (fun _ w' => St (fun _ => False) w w' [(b3, .cells (Cells.vals c110 (smT ((tot a).add (tot l.items)))).toArray 110 (0, 0)), z2, z1]) ?_ ?_
    ·refine nd_left ht' ?_
     cases l with
     | nil =>
      have e : (tot a).add (tot (Tr.nil).items) = tot a := Sums.add_zero okta
      rw [e]
      exact sif_r (fun h => by cases h) (fun _ => S5)
     | node bl ll lx lr =>
      refine sif_r (fun _ => S5.drew fun w6 S6 e6 _ => S6.lds 0 (smT (tot a)) rfl ?_) (fun h => by cases h)
      have ht6 := ht'.ext e6
      refine nd_left ht6 (nd_sum ht6.2.1 (add_x okta (tot_ok okl) (by omega) fun w7 e7 => ?_))
      exact (S6.ext e7).aggSt 0 rfl rfl rfl rfl fun w8 S8 u8 => S8
    ·intro _ w6 S6
     have okm := Sums.add_ok okta (tot_ok okl)
     have bm := (Sums.add_bytes _ _ okta (tot_ok okl)).1
     refine S6.drew fun w7 S7 e7 _ => S7.lds 0 (smT _) rfl (nd_item (htw.ext S7.upd) (measure_x fun w8 e8 => ?_))
     have S8 := S7.ext e8
     refine S8.keeps 0 rfl (add_x okm okx (by omega) fun w9 e9 => (S8.ext e9).aggSt 0 rfl rfl rfl rfl fun w10 S10 u10 => nd_right (htw.ext S10.upd) ?_)
     have ew : IntKind.wrap .i64 (IntKind.wrap .i64 ((i : Int) - (l.size : Int)) - 1) = ((i - l.items.length - 1 : Nat) : Int) := by
      rw [wrap64 (a := (i : Int) - (l.size : Int)) (by omega) (by omega), wrap64 (by omega) (by omega)]; omega
     rw [ew]
     have es : ((tot a).add (tot l.items)).add x.sm = tot (a ++ (l.items ++ [x])) := by
      rw [tot_append hfa (AllOk.append okl (AllOk.one okx)), tot_append okl (AllOk.one okx), tot_one okx, Sums.add_assoc okta (tot_ok okl) okx]
     rw [es] at S10
     refine ⟨⟨i - l.items.length - 1, rr, a ++ (l.items ++ [x]), r, rfl, htw.2.2, by rw [eq, hti]; simp, by omega, ?_, S10⟩, ?_⟩
     ·rw [etk, hti]
      obtain ⟨j, hj⟩ : ∃ j, i = l.items.length + (1 + j) := ⟨i - l.items.length - 1, by omega⟩
      have ej : i - l.items.length - 1 = j := by omega
      rw [ej, hj, List.take_length_add_append, Nat.add_comm 1 j, List.take_succ_cons]
      simp
     ·dsimp only
      rw [szAt_eq (htw.ext S10.upd).2.2, szAt_eq ht']
      show rr.size < l.size + 1 + rr.size
      omega
  ·simp only [decide_eq_false_iff_not] at h
   have : i = 0 := by omega
   subst this
   rw [etk]
   simpa using S5
 ·intro _ w5 S5
  exact S5.lds 0 (smT _) rfl (S5.aggSt 1 rfl rfl rfl rfl fun w6 S6 u6 => S6.lds 1 (smT _) rfl (hK w6 S6.upd))
def atI (l : List Pc) (n : Nat) : Pc × Bool := match l[n]? with | some x => (x, true) | none => (Pc.zero, false)
theorem at_call {t : Tr} {n : Nat} (ht : t.In w) (hf : Fine t.items) (hn : n < 2 ^ 62) {K : Cells.T c112 × Bool × Unit → World → Prop} (hK : ∀ w', Ext w w' → K (pcT (atI t.items n).1, (atI t.items n).2, ()) w') :
  callT Tryz.prog 92 #[trV t, .int .i64 (n : Int)] (.tup [(.agg c112), (.one .bool)]) K w := by
 refine F92_calls (a0 := (t.ptr, ())) ?_
 unfold F92
 refine (St.start w).newO fun b1 w1 S1 e1 => S1.newO fun b2 w2 S2 e2 => ?_
 let z2 : Nat × Obj := (b2, .cells (Cells.vals c112 (pcT Pc.zero)).toArray 112 (0, 0))
 let z1 : Nat × Obj := (b1, .cells (Cells.vals c105 (t.ptr, ())).toArray 105 (0, 0))
 refine join_r (fun _ w' => St (fun _ => False) w w' [z2, z1] ∧ t.items.length ≤ n) ?_ ?_
 ·refine S2.ld 1 rfl (x := t.ptr) rfl ?_
  refine sloop_r (fun x w' => ∃ (i : Nat) (t' : Tr) (a r : List Pc), x = ((i : Int), t'.ptr, ()) ∧ t'.In w ∧ Fine t'.items ∧ t.items = a ++ (t'.items ++ r) ∧ n = a.length + i ∧ (t'.items.length ≤ i → r = []) ∧
   St (fun _ => False) w w' [z2, z1]) (fun x w' => szAt w' x.2.1) ⟨n, t, [], [], rfl, ht, hf, by simp, by simp, fun _ => rfl, S2⟩ ?_
  rintro _ w5 ⟨i, t', a, r, rfl, htw, hft, eq, hi, hr, S5⟩
  have ht' := htw.ext S5.upd
  cases t' with
  | nil =>
   refine join_r (fun x w' => x = (false, ()) ∧ w5 = w') (sif_r (fun h => by cases h) (fun _ => ⟨rfl, rfl⟩)) ?_
   rintro _ w' ⟨rfl, rfl⟩
   refine sif_r (fun h => by cases h) (fun _ => ⟨S5, ?_⟩)
   have := hr (Nat.zero_le _)
   rw [eq, this]
   simp [Tr.items]; omega
  | node b l x rr =>
   refine join_r (fun x w' => x = (true, ()) ∧ w5 = w') (sif_r (fun _ => ⟨by rw [decide_eq_true (by omega)], rfl⟩) (fun h => by cases h)) ?_
   rintro _ w' ⟨rfl, rfl⟩
   have hti : (Tr.node b l x rr).items = l.items ++ x :: rr.items := rfl
   have sl := size_items l
   have few' := hft.few
   have hlen : (Tr.node b l x rr).items.length = l.items.length + 1 + rr.items.length := by rw [hti]; simp; omega
   have hfl : Fine l.items := hft.left
   have hfr : Fine rr.items := Fine.right (l := [x]) hft.right
   refine sif_r (fun _ => nd_left ht' (count_call ht'.2.1 (sif_r (fun h2 => ?_) (fun h2 => sif_r (fun h3 => ?_) (fun h3 => ?_))))) (fun h => by cases h)
   ·simp only [beq_iff_eq] at h2
    have hil : i = l.items.length := by omega
    refine nd_item ht' (S5.aggSt 0 rfl rfl rfl rfl fun w6 S6 u6 => S6.lds 0 (pcT x) rfl ?_)
    have e : atI t.items n = (x, true) := by
     unfold atI
     rw [eq, hi, hil, hti]
     have : (a ++ (l.items ++ x :: rr.items ++ r))[a.length + l.items.length]? = some x := by
      rw [List.getElem?_append_right (by omega), Nat.add_sub_cancel_left, List.append_assoc, List.getElem?_append_right (by omega), Nat.sub_self]; rfl
     rw [this]
    have := hK w6 S6.upd
    rw [e] at this
    exact this
   ·simp only [beq_eq_false_iff_ne] at h2
    simp only [decide_eq_true_eq] at h3
    refine nd_left ht' ⟨⟨i, l, a, x :: rr.items ++ r, rfl, htw.2.1, hfl, by rw [eq, hti]; simp, hi, fun h => by omega, S5⟩, ?_⟩
    dsimp only
    rw [szAt_eq ht', szAt_eq ht'.2.1]
    show l.size < l.size + 1 + rr.size
    omega
   ·simp only [beq_eq_false_iff_ne] at h2
    simp only [decide_eq_false_iff_not] at h3
    have ew : IntKind.wrap .i64 (IntKind.wrap .i64 ((i : Int) - (l.size : Int)) - 1) = ((i - l.items.length - 1 : Nat) : Int) := by
     rw [wrap64 (a := (i : Int) - (l.size : Int)) (by omega) (by omega), wrap64 (by omega) (by omega)]; omega
    rw [ew]
    refine nd_right ht' ⟨⟨i - l.items.length - 1, rr, a ++ (l.items ++ [x]), r, rfl, htw.2.2, hfr, by rw [eq, hti]; simp, by simp; omega, fun h => hr (by omega), S5⟩, ?_⟩
    dsimp only
    rw [szAt_eq ht', szAt_eq ht'.2.2]
    show rr.size < l.size + 1 + rr.size
    omega
 ·rintro _ w5 ⟨S5, hle⟩
  refine S5.newO fun b6 w6 S6 e6 => S6.lds 0 (pcT Pc.zero) rfl (S6.aggSt 1 rfl rfl rfl rfl fun w7 S7 u7 => S7.lds 1 (pcT Pc.zero) rfl ?_)
  have e : atI t.items n = (Pc.zero, false) := by unfold atI; rw [List.getElem?_eq_none hle]
  have := hK w7 S7.upd
  rw [e] at this
  exact this
def keyOf (k : Nat) (s : Sums) : Nat := if k = 0 then s.atoms else s.breaks
def findI (k n : Nat) (l : List Pc) : Nat := ((List.range (l.length + 1)).find? fun i => decide (n ≤ keyOf k (tot (l.take i)))).getD (l.length + 1)
theorem key_x' {s : Sums} {k : Nat} (hk : k < 2) {K : Int → World → Prop} (hK : ∀ w', Ext w w' → K ((keyOf k s : Nat) : Int) w') :
  callX Tryz.prog (invoke (.fn (.method "Key") #[]) (#[.iface 110 (smV s)] ++ #[.int .i64 (k : Int)])) (.one (.one (.int .i64))) K w :=
 key_x hk fun w' e => by
  have := hK w' e
  unfold keyOf at this
  split at this
  ·rename_i h; rw [if_pos h]; exact this
  ·rename_i h; rw [if_neg h]; exact this
theorem keyOf_mono {k : Nat} {a b : Sums} (ha : a.Ok) (hb : b.Ok) : keyOf k a ≤ keyOf k (a.add b) := by
 unfold keyOf Sums.add
 have h1 := ha.nil
 have h2 := hb.lf
 split
 ·split
  ·rename_i h; omega
  ·split
   ·exact Nat.le_refl _
   ·show a.atoms ≤ a.atoms + b.atoms; omega
 ·split
  ·rename_i h; rw [h1 h]; exact Nat.zero_le _
  ·split
   ·exact Nat.le_refl _
   ·show a.breaks ≤ a.breaks + b.breaks - _
    split
    ·rename_i h
     simp only [Bool.and_eq_true] at h
     have := h2 h.2; omega
    ·omega
theorem findI_eq {k n : Nat} {l : List Pc} {j : Nat} (hj : j ≤ l.length) (h1 : n ≤ keyOf k (tot (l.take j))) (h0 : ∀ i, i < j → keyOf k (tot (l.take i)) < n) : findI k n l = j := by
 unfold findI
 have : (List.range (l.length + 1)).find? (fun i => decide (n ≤ keyOf k (tot (l.take i)))) = some j := by
  rw [List.find?_range_eq_some]
  refine ⟨by simpa using h1, by simp; omega, fun i hi => ?_⟩
  have := h0 i hi
  simp; omega
 rw [this]; rfl
theorem findI_none {k n : Nat} {l : List Pc} (h0 : ∀ i, i ≤ l.length → keyOf k (tot (l.take i)) < n) : findI k n l = l.length + 1 := by
 unfold findI
 have : (List.range (l.length + 1)).find? (fun i => decide (n ≤ keyOf k (tot (l.take i)))) = none := by
  rw [List.find?_range_eq_none]
  intro i hi
  have := h0 i (by omega)
  simp; omega
 rw [this]; rfl
end
end Go.Proofs.YtabcpghhfeplaaaGreat
