/- YtmooldhpiopcgaaGreatDoorSUn4: parts of the proof, put together by program. -/
import Derived.Test.YtmooldhpiopcgaaGreatDoorSUn3
set_option linter.unusedVariables false
set_option linter.unusedSimpArgs false
set_option linter.unusedSectionVars false
set_option linter.unusedSimpArgs false
set_option linter.unusedVariables false
set_option maxRecDepth 100000
set_option linter.unusedVariables false
namespace Go.Proofs.YtmooldhpiopcgaaGreatDoor
open Go Go.Vx
noncomputable def F24 (a0 : Sl) (K : (Int × Int × Unit) → World → Prop) : World → Prop :=
 join (S := Bool × Unit) (fun J1 =>
 sif (decide (((a0.len : Nat) : Int) ≥ (3 : Int))) (
 ix a0.a a0.len (0 : Int) fun p3 =>
 ld (.int .u8) (p3.add (scaled (Int.toNat (0 : Int)) 1)) fun (x4 : Int) =>
 sif (x4 == (239 : Int)) (
 ix a0.a a0.len (1 : Int) fun p5 =>
 ld (.int .u8) (p5.add (scaled (Int.toNat (1 : Int)) 1)) fun (x6 : Int) =>
 sif (x6 == (187 : Int)) (
 ix a0.a a0.len (2 : Int) fun p7 =>
 ld (.int .u8) (p7.add (scaled (Int.toNat (2 : Int)) 1)) fun (x8 : Int) =>
 J1 ((x8 == (191 : Int)), ())) (
 J1 (false, ()))) (
 J1 (false, ()))) (
 J1 (false, ()))) fun (s2 : Bool × Unit) =>
 sif s2.1 (
 K ((1 : Int), (3 : Int), ())) (
 join (S := Bool × Unit) (fun J9 =>
 sif (decide (((a0.len : Nat) : Int) ≥ (2 : Int))) (
 ix a0.a a0.len (0 : Int) fun p11 =>
 ld (.int .u8) (p11.add (scaled (Int.toNat (0 : Int)) 1)) fun (x12 : Int) =>
 sif (x12 == (255 : Int)) (
 ix a0.a a0.len (1 : Int) fun p13 =>
 ld (.int .u8) (p13.add (scaled (Int.toNat (1 : Int)) 1)) fun (x14 : Int) =>
 J9 ((x14 == (254 : Int)), ())) (
 J9 (false, ()))) (
 J9 (false, ()))) fun (s10 : Bool × Unit) =>
 sif s10.1 (
 K ((2 : Int), (2 : Int), ())) (
 join (S := Bool × Unit) (fun J15 =>
 sif (decide (((a0.len : Nat) : Int) ≥ (2 : Int))) (
 ix a0.a a0.len (0 : Int) fun p17 =>
 ld (.int .u8) (p17.add (scaled (Int.toNat (0 : Int)) 1)) fun (x18 : Int) =>
 sif (x18 == (254 : Int)) (
 ix a0.a a0.len (1 : Int) fun p19 =>
 ld (.int .u8) (p19.add (scaled (Int.toNat (1 : Int)) 1)) fun (x20 : Int) =>
 J15 ((x20 == (255 : Int)), ())) (
 J15 (false, ()))) (
 J15 (false, ()))) fun (s16 : Bool × Unit) =>
 sif s16.1 (
 K ((3 : Int), (2 : Int), ())) (
 K ((0 : Int), (0 : Int), ()))))
noncomputable def h24 : Hint := (.seq none (.region [] (.ops 2 .done)) (.seq none (.block (.seq (some (67108848, [(4, (.one .bool))])) (.region [] (.ops 4 (.split 8 (.ops 6 (.split 14 (.ops 6 (.split 20 (.ops 6 .done) (.skips 4 (.ops 2 .done)))) (.skips 4 (.ops 2 (.skips 4 (.ops 2 .done)))))) (.skips 4 (.ops 2 (.skips 4 (.ops 2 (.skips 4 (.ops 2 .done))))))))) (.cond none (.seq none (.region [] (.ops 2 .done)) .leaf) (.seq (some (4397979402240, [(26, (.one .bool))])) (.region [] (.ops 4 (.split 30 (.ops 6 (.split 36 (.ops 6 .done) (.skips 4 (.ops 2 .done)))) (.skips 4 (.ops 2 (.skips 4 (.ops 2 .done))))))) (.cond none (.seq none (.region [] (.ops 2 .done)) .leaf) (.seq (some (288225978105200640, [(42, (.one .bool))])) (.region [] (.ops 4 (.split 46 (.ops 6 (.split 52 (.ops 6 .done) (.skips 4 (.ops 2 .done)))) (.skips 4 (.ops 2 (.skips 4 (.ops 2 .done))))))) (.cond none (.seq none (.region [] (.ops 2 .done)) .leaf) .leaf))))))) (.seq none (.region [] (.ops 2 .done)) .leaf)))
theorem F24_tie (a0 : Sl) (K : (Int × Int × Unit) → World → Prop) : vcgF tab Tryz.prog Tryz.f24 h24 [(.slice a0.a a0.len a0.cap)] (.tup [(.one (.int .i64)), (.one (.int .i64))]) K = F24 a0 K := by kernel_rfl
theorem F24_calls {a0 : Sl} {K : (Int × Int × Unit) → World → Prop} {w : World} (h : F24 a0 K w) : callT Tryz.prog 24 #[(.slice a0.a a0.len a0.cap)] (.tup [(.one (.int .i64)), (.one (.int .i64))]) K w :=
  vcgF_sound tabOk Tryz.func24 h24 [(.slice a0.a a0.len a0.cap)] (.tup [(.one (.int .i64)), (.one (.int .i64))]) K w (Eq.mpr (congrFun (F24_tie a0 K) w) h)
noncomputable def F25 (a0 : Int) (K : Sl → World → Prop) : World → Prop :=
 sif (a0 == (1 : Int)) (
 newO (.cells #[(.int .u8 (239 : Int)), (.int .u8 (187 : Int)), (.int .u8 (191 : Int))] 5) fun b1 =>
 K ⟨(some (at0 b1)), 3, 3⟩) (
 sif (a0 == (2 : Int)) (
 newO (.cells #[(.int .u8 (255 : Int)), (.int .u8 (254 : Int))] 5) fun b2 =>
 K ⟨(some (at0 b2)), 2, 2⟩) (
 sif (a0 == (3 : Int)) (
 newO (.cells #[(.int .u8 (254 : Int)), (.int .u8 (255 : Int))] 5) fun b3 =>
 K ⟨(some (at0 b3)), 2, 2⟩) (
 K ⟨none, 0, 0⟩)))
noncomputable def h25 : Hint := (.seq none (.region [] (.ops 1 .done)) (.seq none (.seq none (.region [] (.ops 1 .done)) (.block (.seq none (.region [] (.ops 2 .done)) (.cond none (.seq none (.region [] (.ops 2 .done)) .leaf) (.seq none (.region [] (.ops 2 .done)) (.cond none (.seq none (.region [] (.ops 2 .done)) .leaf) (.seq none (.region [] (.ops 2 .done)) (.cond none (.seq none (.region [] (.ops 2 .done)) .leaf) .leaf)))))))) (.seq none (.region [] (.ops 1 .done)) .leaf)))
theorem F25_tie (a0 : Int) (K : Sl → World → Prop) : vcgF tab Tryz.prog Tryz.f25 h25 [(.int .i64 a0)] (.one (.one .sl)) K = F25 a0 K := by kernel_rfl
theorem F25_calls {a0 : Int} {K : Sl → World → Prop} {w : World} (h : F25 a0 K w) : callT Tryz.prog 25 #[(.int .i64 a0)] (.one (.one .sl)) K w :=
  vcgF_sound tabOk Tryz.func25 h25 [(.int .i64 a0)] (.one (.one .sl)) K w (Eq.mpr (congrFun (F25_tie a0 K) w) h)
noncomputable def F48 (a0 : Int) (a1 : Sl) (a2 : Int) (K : (Option Addr × Int × Unit) → World → Prop) : World → Prop :=
 join (S := Bool × Unit) (fun J1 =>
 sif (decide (a0 < (1 : Int))) (
 J1 (true, ())) (
 J1 ((decide (a0 > (4 : Int))), ()))) fun (s2 : Bool × Unit) =>
 sif s2.1 (
 K (none, (10 : Int), ())) (
 join (S := Bool × Unit) (fun J3 =>
 sif (decide (a2 < (0 : Int))) (
 J3 (true, ())) (
 J3 ((decide (a2 > (65536 : Int))), ()))) fun (s4 : Bool × Unit) =>
 sif s4.1 (
 K (none, (1 : Int), ())) (
 sif (decide (((a1.len : Nat) : Int) > a2)) (
 K (none, (50 : Int), ())) (
 rawT Tryz.prog (.one (.one .sl)) (Instr.makeSlice 30 (.int .i64 ((a1.len : Nat) : Int)) (.int .i64 ((a1.len : Nat) : Int))) fun (x5 : Sl) =>
 rawT Tryz.prog (.one (.one (.int .i64))) (Builtin.copy_ #[30, 30] 3 #[(.slice x5.a x5.len x5.cap), (.slice a1.a a1.len a1.cap)]) fun (x6 : Int) =>
 newO (.cells #[(.int .i64 a0), (.int .i64 a2), (.pointer none), (.slice none 0 0)] 141) fun b7 =>
 join (S := Sl × Unit) (fun J8 =>
 sloop (S := Sl × Int × Unit) (fun (s10 : Sl × Int × Unit) again11 =>
 sif (decide (s10.2.1 < ((x5.len : Nat) : Int))) (
 join (S := Int × Unit) (fun J12 =>
 sloop (S := Int × Int × Unit) (fun (s14 : Int × Int × Unit) again15 =>
 join (S := Bool × Unit) (fun J16 =>
 sif (decide (s14.1 < ((x5.len : Nat) : Int))) (
 J16 ((decide (s14.2.1 < (128 : Int))), ())) (
 J16 (false, ()))) fun (s17 : Bool × Unit) =>
 sif s17.1 (
 callT Tryz.prog 84 #[(.int .i64 a0), (.slice x5.a x5.len x5.cap), (.int .i64 s14.1)] (.tup [(.one (.int .i64)), (.one (.int .i64))]) fun (x18 : (Int × Int × Unit)) =>
 again15 ((IntKind.wrap .i64 (s14.1 + x18.2.1)), (IntKind.wrap .i64 (s14.2.1 + (1 : Int))), ())) (
 J12 (s14.1, ()))) (s10.2.1, (0 : Int), ())) fun (s13 : Int × Unit) =>
 slc x5.a s10.2.1 s13.1 s13.1 x5.cap 1 fun x19 =>
 callT Tryz.prog 85 #[(.int .i64 a0), (.slice x19.a x19.len x19.cap), (.int .i64 s10.2.1)] (.one (.agg c146)) fun (x20 : (Sl × Int × Int × Int × Int × Bool × Bool × Unit)) =>
 newO (.cells #[(.slice x20.1.a x20.1.len x20.1.cap), (.int .i64 x20.2.1), (.int .i64 x20.2.2.1), (.int .i64 x20.2.2.2.1), (.int .i64 x20.2.2.2.2.1), (.bool x20.2.2.2.2.2.1), (.bool x20.2.2.2.2.2.2.1)] 146) fun b21 =>
 rawT Tryz.prog (.one (.one .sl)) (Builtin.append_ #[165, 165] 165 #[(.slice s10.1.a s10.1.len s10.1.cap), (.slice (some (at0 b21)) 1 1)]) fun (x22 : Sl) =>
 again11 (x22, s13.1, ())) (
 J8 (s10.1, ()))) (⟨none, 0, 0⟩, (0 : Int), ())) fun (s9 : Sl × Unit) =>
 callT Tryz.prog 86 #[(.slice s9.1.a s9.1.len s9.1.cap)] (.one (.agg c139)) fun (x23 : (Option Addr × Unit)) =>
 nn (some (at0 b7)) fun p24 =>
 aggSt (p24.add 2) (.agg (Cells.vals c139 x23).toArray) 1 <|
 K ((some (at0 b7)), (0 : Int), ()))))
noncomputable def h48 : Hint := (.seq none (.region [] (.ops 2 .done)) (.seq none (.block (.seq (some (8323072, [(16, (.one .bool))])) (.region [] (.ops 3 (.split 19 (.skips 2 (.ops 2 .done)) (.ops 4 .done)))) (.cond none (.seq none (.region [] (.ops 2 .done)) .leaf) (.seq (some (1065353216, [(23, (.one .bool))])) (.region [] (.ops 3 (.split 26 (.skips 2 (.ops 2 .done)) (.ops 4 .done)))) (.cond none (.seq none (.region [] (.ops 2 .done)) .leaf) (.seq none (.region [] (.ops 5 .done)) (.cond none (.seq none (.region [] (.ops 2 .done)) .leaf) .leaf))))))) (.seq none (.region [] (.ops 4 .done)) (.seq none (.region [] (.ops 3 .done)) (.seq none (.region [] (.ops 5 .done)) (.seq none (.region [] (.ops 1 .done)) (.seq (some (4835703278423332326800384, [(10, (.one .sl))])) (.seq none (.region [] (.ops 1 .done)) (.block (.loop 4835703278423332326800384 [(10, (.one .sl)), (11, (.one (.int .i64)))] (.seq none (.seq none (.region [] (.ops 4 .done)) (.cond none .leaf .leaf)) (.block (.seq none (.region [] (.ops 3 .done)) (.seq (some (1180590494817504522240, [(12, (.one (.int .i64)))])) (.block (.loop 1180590494817504522240 [(12, (.one (.int .i64))), (13, (.one (.int .i64)))] (.seq none (.seq (some (287104476244869120, [(57, (.one .bool))])) (.region [] (.ops 5 (.split 54 (.ops 3 .done) (.skips 2 (.ops 1 .done))))) (.cond none .leaf .leaf)) (.seq none (.block (.seq none (.region [] (.ops 9 .done)) (.region [] (.ops 4 .done)))) (.region [] (.ops 3 .done)))))) (.seq none (.region [] (.ops 12 .done)) (.region [] (.ops 2 .done)))))))))) (.seq none (.region [] (.ops 6 .done)) (.seq none (.region [] (.ops 3 .done)) .leaf)))))))))
theorem F48_tie (a0 : Int) (a1 : Sl) (a2 : Int) (K : (Option Addr × Int × Unit) → World → Prop) : vcgF tab Tryz.prog Tryz.f48 h48 [(.int .i64 a0), (.slice a1.a a1.len a1.cap), (.int .i64 a2)] (.tup [(.one .ptr), (.one (.int .i64))]) K = F48 a0 a1 a2 K := by kernel_rfl
theorem F48_calls {a0 : Int} {a1 : Sl} {a2 : Int} {K : (Option Addr × Int × Unit) → World → Prop} {w : World} (h : F48 a0 a1 a2 K w) : callT Tryz.prog 48 #[(.int .i64 a0), (.slice a1.a a1.len a1.cap), (.int .i64 a2)] (.tup [(.one .ptr), (.one (.int .i64))]) K w :=
  vcgF_sound tabOk Tryz.func48 h48 [(.int .i64 a0), (.slice a1.a a1.len a1.cap), (.int .i64 a2)] (.tup [(.one .ptr), (.one (.int .i64))]) K w (Eq.mpr (congrFun (F48_tie a0 a1 a2 K) w) h)
noncomputable def F55 (a0 : Sl) (K : (Int × Value × Unit) → World → Prop) : World → Prop :=
 callT Tryz.prog 24 #[(.slice a0.a a0.len a0.cap)] (.tup [(.one (.int .i64)), (.one (.int .i64))]) fun (x1 : (Int × Int × Unit)) =>
 sif (x1.1 != (0 : Int)) (
 K (x1.1, (Value.float FloatKind.f64 4607182418800017408), ())) (
 join (S := Unit) (fun J2 =>
 chk ((2 : Int) ≠ 0) <|
 sif (decide ((IntKind.wrap .i64 (Int.tdiv ((a0.len : Nat) : Int) (2 : Int))) > (0 : Int))) (
 callT Tryz.prog 94 #[(.slice a0.a a0.len a0.cap), (.int .i64 (0 : Int)), (.int .i64 (IntKind.wrap .i64 (Int.tdiv ((a0.len : Nat) : Int) (2 : Int))))] (.one (.one .any)) fun (x4 : Value) =>
 callT Tryz.prog 94 #[(.slice a0.a a0.len a0.cap), (.int .i64 (1 : Int)), (.int .i64 (IntKind.wrap .i64 (Int.tdiv ((a0.len : Nat) : Int) (2 : Int))))] (.one (.one .any)) fun (x5 : Value) =>
 join (S := Bool × Unit) (fun J6 =>
 rdB Tryz.prog (do eqGuard .geq 112 (Operand.tmp 35) (Operand.const (Value.float FloatKind.f64 4602678819172646912)) x5 (Value.float FloatKind.f64 4602678819172646912); binOp .geq 112 x5 (Value.float FloatKind.f64 4602678819172646912) : Sem Value) fun r8 =>
 sif r8 (
 rdB Tryz.prog (do eqGuard .leq 112 (Operand.tmp 38) (Operand.const (Value.float FloatKind.f64 4593671619917905920)) x4 (Value.float FloatKind.f64 4593671619917905920); binOp .leq 112 x4 (Value.float FloatKind.f64 4593671619917905920) : Sem Value) fun r9 =>
 J6 (r9, ())) (
 J6 (false, ()))) fun (s7 : Bool × Unit) =>
 sif s7.1 (
 K ((2 : Int), x5, ())) (
 join (S := Bool × Unit) (fun J10 =>
 rdB Tryz.prog (do eqGuard .geq 112 (Operand.tmp 43) (Operand.const (Value.float FloatKind.f64 4602678819172646912)) x4 (Value.float FloatKind.f64 4602678819172646912); binOp .geq 112 x4 (Value.float FloatKind.f64 4602678819172646912) : Sem Value) fun r12 =>
 sif r12 (
 rdB Tryz.prog (do eqGuard .leq 112 (Operand.tmp 46) (Operand.const (Value.float FloatKind.f64 4593671619917905920)) x5 (Value.float FloatKind.f64 4593671619917905920); binOp .leq 112 x5 (Value.float FloatKind.f64 4593671619917905920) : Sem Value) fun r13 =>
 J10 (r13, ())) (
 J10 (false, ()))) fun (s11 : Bool × Unit) =>
 sif s11.1 (
 K ((3 : Int), x4, ())) (
 J2 ()))) (
 J2 ())) fun (s3 : Unit) =>
 join (S := Int × Int × Unit) (fun J14 =>
 sloop (S := Int × Int × Int × Unit) (fun (s16 : Int × Int × Int × Unit) again17 =>
 sif (decide (s16.2.2.1 < ((a0.len : Nat) : Int))) (
 slc a0.a s16.2.2.1 ((a0.len : Nat) : Int) ((a0.cap : Nat) : Int) a0.cap 1 fun x18 =>
 callT Tryz.prog 95 #[(.agg #[]), (.slice x18.a x18.len x18.cap)] (.tup [(.one (.int .i64)), (.one (.int .i64))]) fun (x19 : (Int × Int × Unit)) =>
 join (S := Int × Unit) (fun J20 =>
 sif (decide (x19.1 < (0 : Int))) (
 J20 ((IntKind.wrap .i64 (s16.2.1 + (1 : Int))), ())) (
 J20 (s16.2.1, ()))) fun (s21 : Int × Unit) =>
 join (S := Int × Unit) (fun J22 =>
 ix a0.a a0.len s16.2.2.1 fun p24 =>
 ld (.int .u8) (p24.add (scaled (Int.toNat s16.2.2.1) 1)) fun (x25 : Int) =>
 sif (decide (x25 ≥ (128 : Int))) (
 J22 ((IntKind.wrap .i64 (s16.1 + x19.2.1)), ())) (
 J22 (s16.1, ()))) fun (s23 : Int × Unit) =>
 again17 (s23.1, s21.1, (IntKind.wrap .i64 (s16.2.2.1 + x19.2.1)), ())) (
 J14 (s16.1, s16.2.1, ()))) ((0 : Int), (0 : Int), (0 : Int), ())) fun (s15 : Int × Int × Unit) =>
 sif (s15.2.1 == (0 : Int)) (
 K ((1 : Int), (Value.float FloatKind.f64 4607182418800017408), ())) (
 rdV Tryz.prog (convert 3 112 (.int .i64 (IntKind.wrap .i64 (s15.1 - s15.2.1)))) fun x26 =>
 rdV Tryz.prog (convert 3 112 (.int .i64 s15.1)) fun x27 =>
 rdV Tryz.prog (do eqGuard .quo 112 (Operand.tmp 82) (Operand.tmp 84) x26 x27; binOp .quo 112 x26 x27 : Sem Value) fun r28 =>
 rdB Tryz.prog (do eqGuard .geq 112 (Operand.tmp 86) (Operand.const (Value.float FloatKind.f64 4604930618986332160)) r28 (Value.float FloatKind.f64 4604930618986332160); binOp .geq 112 r28 (Value.float FloatKind.f64 4604930618986332160) : Sem Value) fun r29 =>
 sif r29 (
 K ((1 : Int), r28, ())) (
 rdV Tryz.prog (do eqGuard .sub 112 (Operand.const (Value.float FloatKind.f64 4607182418800017408)) (Operand.tmp 89) (Value.float FloatKind.f64 4607182418800017408) r28; binOp .sub 112 (Value.float FloatKind.f64 4607182418800017408) r28 : Sem Value) fun r30 =>
 K ((4 : Int), r30, ()))))
noncomputable def h55 : Hint := (.seq none (.region [] (.ops 2 .done)) (.seq none (.seq none (.region [] (.ops 7 .done)) (.seq none (.region [] (.ops 2 .done)) (.cond none (.seq none (.region [] (.ops 3 .done)) .leaf) .leaf))) (.seq (some (1125899898454476, [])) (.seq none (.region [] (.ops 4 .done)) (.seq none (.region [] (.ops 2 .done)) (.cond none (.seq none (.region [] (.ops 8 .done)) (.block (.seq (some (2181843386368, [(34, (.one .bool))])) (.region [] (.ops 3 (.split 37 (.ops 4 .done) (.skips 2 (.ops 2 .done))))) (.cond none (.seq none (.region [] (.ops 3 .done)) .leaf) (.seq (some (558551906910208, [(42, (.one .bool))])) (.region [] (.ops 3 (.split 45 (.ops 4 .done) (.skips 2 (.ops 2 .done))))) (.cond none (.seq none (.region [] (.ops 3 .done)) .leaf) .leaf)))))) .leaf))) (.seq none (.region [] (.ops 2 .done)) (.seq (some (151115726325928740011520, [(9, (.one (.int .i64))), (10, (.one (.int .i64)))])) (.seq none (.region [] (.ops 1 .done)) (.block (.loop 151115726325928740011520 [(9, (.one (.int .i64))), (10, (.one (.int .i64))), (11, (.one (.int .i64)))] (.seq none (.seq none (.region [] (.ops 4 .done)) (.cond none .leaf .leaf)) (.block (.seq none (.region [] (.ops 10 .done)) (.seq (some (69175290276410819584, [(10, (.one (.int .i64)))])) (.seq none (.region [] (.ops 2 .done)) (.cond none (.region [] (.ops 3 .done)) .leaf)) (.seq (some (18815678955183742648832, [(9, (.one (.int .i64)))])) (.seq none (.region [] (.ops 5 .done)) (.cond none (.region [] (.ops 4 .done)) .leaf)) (.region [] (.ops 4 .done)))))))))) (.seq none (.seq none (.region [] (.ops 2 .done)) (.cond none (.seq none (.region [] (.ops 2 .done)) .leaf) .leaf)) (.seq none (.region [] (.ops 8 .done)) (.seq none (.seq none (.region [] (.ops 2 .done)) (.cond none (.seq none (.region [] (.ops 3 .done)) .leaf) .leaf)) (.seq none (.region [] (.ops 4 .done)) .leaf)))))))))
theorem F55_tie (a0 : Sl) (K : (Int × Value × Unit) → World → Prop) : vcgF tab Tryz.prog Tryz.f55 h55 [(.slice a0.a a0.len a0.cap)] (.tup [(.one (.int .i64)), (.one .any)]) K = F55 a0 K := by kernel_rfl
theorem F55_calls {a0 : Sl} {K : (Int × Value × Unit) → World → Prop} {w : World} (h : F55 a0 K w) : callT Tryz.prog 55 #[(.slice a0.a a0.len a0.cap)] (.tup [(.one (.int .i64)), (.one .any)]) K w :=
  vcgF_sound tabOk Tryz.func55 h55 [(.slice a0.a a0.len a0.cap)] (.tup [(.one (.int .i64)), (.one .any)]) K w (Eq.mpr (congrFun (F55_tie a0 K) w) h)
noncomputable def F70 (a0 : (Option Addr × Unit)) (a1 : Int) (K : Value → World → Prop) : World → Prop :=
 newO (.cells #[(.pointer a0.1)] 139) fun b1 =>
 newO (.cells #[(.int .i64 a1)] 3) fun b2 =>
 K (.func (Fn.func 98) #[] #[(.pointer (some (at0 b1))), (.pointer (some (at0 b2)))])
noncomputable def h70 : Hint := (.seq none (.region [] (.ops 3 .done)) (.seq none (.region [] (.ops 2 .done)) .leaf))
theorem F70_tie (a0 : (Option Addr × Unit)) (a1 : Int) (K : Value → World → Prop) : vcgF tab Tryz.prog Tryz.f70 h70 [(.agg (Cells.vals c139 a0).toArray), (.int .i64 a1)] (.one (.one .any)) K = F70 a0 a1 K := by kernel_rfl
theorem F70_calls {a0 : (Option Addr × Unit)} {a1 : Int} {K : Value → World → Prop} {w : World} (h : F70 a0 a1 K w) : callT Tryz.prog 70 #[(.agg (Cells.vals c139 a0).toArray), (.int .i64 a1)] (.one (.one .any)) K w :=
  vcgF_sound tabOk Tryz.func70 h70 [(.agg (Cells.vals c139 a0).toArray), (.int .i64 a1)] (.one (.one .any)) K w (Eq.mpr (congrFun (F70_tie a0 a1 K) w) h)
noncomputable def F84 (a0 : Int) (a1 : Sl) (a2 : Int) (K : (Int × Int × Unit) → World → Prop) : World → Prop :=
 callT Tryz.prog 126 #[(.int .i64 a0)] (.one (.one .any)) fun (x1 : Value) =>
 join (S := Bool × Unit) (fun J2 =>
 rdB Tryz.prog (do eqGuard .eql 204 (Operand.tmp 11) (Operand.const Value.nilIface) x1 .nilIface; binOp .eql 204 x1 .nilIface : Sem Value) fun r4 =>
 sif r4 (
 J2 (true, ())) (
 sif (decide (a2 < (0 : Int))) (
 J2 (true, ())) (
 J2 ((decide (a2 ≥ ((a1.len : Nat) : Int))), ())))) fun (s3 : Bool × Unit) =>
 sif s3.1 (
 K ((0 : Int), (0 : Int), ())) (
 drew <|
 slc a1.a a2 ((a1.len : Nat) : Int) ((a1.cap : Nat) : Int) a1.cap 1 fun x5 =>
 chk (methOk Tryz.prog x1 "copyist/codec.first") <|
 callX Tryz.prog (invoke (.fn (.method "copyist/codec.first") #[]) (#[x1] ++ #[(.slice x5.a x5.len x5.cap)])) (.tup [(.one (.int .i64)), (.one (.int .i64))]) fun (x6 : (Int × Int × Unit)) =>
 K (x6.1, x6.2.1, ()))
noncomputable def h84 : Hint := (.seq none (.region [] (.ops 2 .done)) (.seq none (.region [] (.ops 3 .done)) (.seq none (.seq (some (8386560, [(22, (.one .bool))])) (.region [] (.ops 3 (.split 13 (.skips 2 (.ops 2 (.skips 4 (.ops 1 .done)))) (.ops 4 (.split 17 (.skips 4 (.ops 1 .done)) (.ops 5 .done)))))) (.cond none (.seq none (.region [] (.ops 2 .done)) .leaf) .leaf)) (.seq none (.region [0, 1, 2, 3, 4, 5, 6, 7, 8, 9, 10, 11] (.ops 12 .done)) .leaf))))
theorem F84_tie (a0 : Int) (a1 : Sl) (a2 : Int) (K : (Int × Int × Unit) → World → Prop) : vcgF tab Tryz.prog Tryz.f84 h84 [(.int .i64 a0), (.slice a1.a a1.len a1.cap), (.int .i64 a2)] (.tup [(.one (.int .i64)), (.one (.int .i64))]) K = F84 a0 a1 a2 K := by kernel_rfl
theorem F84_calls {a0 : Int} {a1 : Sl} {a2 : Int} {K : (Int × Int × Unit) → World → Prop} {w : World} (h : F84 a0 a1 a2 K w) : callT Tryz.prog 84 #[(.int .i64 a0), (.slice a1.a a1.len a1.cap), (.int .i64 a2)] (.tup [(.one (.int .i64)), (.one (.int .i64))]) K w :=
  vcgF_sound tabOk Tryz.func84 h84 [(.int .i64 a0), (.slice a1.a a1.len a1.cap), (.int .i64 a2)] (.tup [(.one (.int .i64)), (.one (.int .i64))]) K w (Eq.mpr (congrFun (F84_tie a0 a1 a2 K) w) h)
noncomputable def F85 (a0 : Int) (a1 : Sl) (a2 : Int) (K : (Sl × Int × Int × Int × Int × Bool × Bool × Unit) → World → Prop) : World → Prop :=
 newO (.cells #[(.slice none 0 0), (.int .i64 (0 : Int)), (.int .i64 (0 : Int)), (.int .i64 (0 : Int)), (.int .i64 (0 : Int)), (.bool false), (.bool false)] 146) fun b1 =>
 newO (.cells #[(.slice none 0 0), (.int .i64 (0 : Int)), (.int .i64 (0 : Int)), (.int .i64 (0 : Int)), (.int .i64 (0 : Int)), (.bool false), (.bool false)] 146) fun b2 =>
 aggSt (at0 b2) (.agg #[(.slice a1.a a1.len a1.cap), (.int .i64 a2), (.int .i64 (0 : Int)), (.int .i64 (0 : Int)), (.int .i64 (0 : Int)), (.bool false), (.bool false)]) 7 <|
 join (S := Unit) (fun J3 =>
 sloop (S := Int × Unit) (fun (s5 : Int × Unit) again6 =>
 sif (decide (s5.1 < ((a1.len : Nat) : Int))) (
 callT Tryz.prog 84 #[(.int .i64 a0), (.slice a1.a a1.len a1.cap), (.int .i64 s5.1)] (.tup [(.one (.int .i64)), (.one (.int .i64))]) fun (x7 : (Int × Int × Unit)) =>
 drew <|
 lds c144 (⟨b2, 2, none⟩ : Addr) fun (x8 : (Int × Int × Int × Bool × Bool × Unit)) =>
 callT Tryz.prog 128 #[(.int .i64 x7.1), (.int .i64 x7.2.1)] (.one (.agg c144)) fun (x9 : (Int × Int × Int × Bool × Bool × Unit)) =>
 keep (fun w => cellsAt w (⟨b2, 2, none⟩ : Addr) 0 (Cells.vals c144 x8)) <|
 callT Tryz.prog 127 #[(.agg (Cells.vals c144 x8).toArray), (.agg (Cells.vals c144 x9).toArray)] (.one (.agg c144)) fun (x10 : (Int × Int × Int × Bool × Bool × Unit)) =>
 aggSt (⟨b2, 2, none⟩ : Addr) (.agg (Cells.vals c144 x10).toArray) 5 <|
 again6 ((IntKind.wrap .i64 (s5.1 + x7.2.1)), ())) (
 J3 ())) ((0 : Int), ())) fun (s4 : Unit) =>
 lds c146 (at0 b2) fun (x11 : (Sl × Int × Int × Int × Int × Bool × Bool × Unit)) =>
 aggSt (at0 b1) (.agg (Cells.vals c146 x11).toArray) 7 <|
 lds c146 (at0 b1) fun (x12 : (Sl × Int × Int × Int × Int × Bool × Bool × Unit)) =>
 K x12
noncomputable def h85 : Hint := (.seq none (.region [] (.ops 1 .done)) (.seq none (.region [] (.ops 5 .done)) (.seq (some (34359723776, [])) (.seq none (.region [] (.ops 1 .done)) (.block (.loop 34359723776 [(8, (.one (.int .i64)))] (.seq none (.seq none (.region [] (.ops 4 .done)) (.cond none .leaf .leaf)) (.block (.seq none (.region [] (.ops 9 .done)) (.seq none (.region [0, 1, 2, 3, 4, 5, 6, 7] (.ops 8 .done)) (.region [] (.ops 4 .done))))))))) (.seq none (.region [] (.ops 2 .done)) .leaf))))
theorem F85_tie (a0 : Int) (a1 : Sl) (a2 : Int) (K : (Sl × Int × Int × Int × Int × Bool × Bool × Unit) → World → Prop) : vcgF tab Tryz.prog Tryz.f85 h85 [(.int .i64 a0), (.slice a1.a a1.len a1.cap), (.int .i64 a2)] (.one (.agg c146)) K = F85 a0 a1 a2 K := by kernel_rfl
theorem F85_calls {a0 : Int} {a1 : Sl} {a2 : Int} {K : (Sl × Int × Int × Int × Int × Bool × Bool × Unit) → World → Prop} {w : World} (h : F85 a0 a1 a2 K w) : callT Tryz.prog 85 #[(.int .i64 a0), (.slice a1.a a1.len a1.cap), (.int .i64 a2)] (.one (.agg c146)) K w :=
  vcgF_sound tabOk Tryz.func85 h85 [(.int .i64 a0), (.slice a1.a a1.len a1.cap), (.int .i64 a2)] (.one (.agg c146)) K w (Eq.mpr (congrFun (F85_tie a0 a1 a2 K) w) h)
noncomputable def F86 (a0 : Sl) (K : (Option Addr × Unit) → World → Prop) : World → Prop :=
 newO (.cells #[(.pointer none)] 139) fun b1 =>
 callT Tryz.prog 129 #[(.slice a0.a a0.len a0.cap)] (.one (.one .ptr)) fun (x2 : Option Addr) =>
 aggSt (at0 b1) (.agg #[(.pointer x2)]) 1 <|
 lds c139 (at0 b1) fun (x3 : (Option Addr × Unit)) =>
 K x3
noncomputable def h86 : Hint := (.seq none (.region [] (.ops 1 .done)) (.seq none (.region [] (.ops 4 .done)) .leaf))
theorem F86_tie (a0 : Sl) (K : (Option Addr × Unit) → World → Prop) : vcgF tab Tryz.prog Tryz.f86 h86 [(.slice a0.a a0.len a0.cap)] (.one (.agg c139)) K = F86 a0 K := by kernel_rfl
theorem F86_calls {a0 : Sl} {K : (Option Addr × Unit) → World → Prop} {w : World} (h : F86 a0 K w) : callT Tryz.prog 86 #[(.slice a0.a a0.len a0.cap)] (.one (.agg c139)) K w :=
  vcgF_sound tabOk Tryz.func86 h86 [(.slice a0.a a0.len a0.cap)] (.one (.agg c139)) K w (Eq.mpr (congrFun (F86_tie a0 K) w) h)
noncomputable def F94 (a0 : Sl) (a1 : Int) (a2 : Int) (K : Value → World → Prop) : World → Prop :=
 join (S := Int × Unit) (fun J1 =>
 sloop (S := Int × Int × Unit) (fun (s3 : Int × Int × Unit) again4 =>
 sif (decide (s3.2.1 < (IntKind.wrap .i64 ((2 : Int) * a2)))) (
 join (S := Int × Unit) (fun J5 =>
 ix a0.a a0.len s3.2.1 fun p7 =>
 ld (.int .u8) (p7.add (scaled (Int.toNat s3.2.1) 1)) fun (x8 : Int) =>
 sif (x8 == (0 : Int)) (
 J5 ((IntKind.wrap .i64 (s3.1 + (1 : Int))), ())) (
 J5 (s3.1, ()))) fun (s6 : Int × Unit) =>
 again4 (s6.1, (IntKind.wrap .i64 (s3.2.1 + (2 : Int))), ())) (
 J1 (s3.1, ()))) ((0 : Int), a1, ())) fun (s2 : Int × Unit) =>
 rdV Tryz.prog (convert 3 112 (.int .i64 s2.1)) fun x9 =>
 rdV Tryz.prog (convert 3 112 (.int .i64 a2)) fun x10 =>
 rdV Tryz.prog (do eqGuard .quo 112 (Operand.tmp 24) (Operand.tmp 26) x9 x10; binOp .quo 112 x9 x10 : Sem Value) fun r11 =>
 K r11
noncomputable def h94 : Hint := (.seq none (.region [] (.ops 1 .done)) (.seq none (.region [] (.ops 1 .done)) (.seq (some (8388480, [(7, (.one (.int .i64)))])) (.seq none (.region [] (.ops 2 .done)) (.block (.loop 8387968 [(7, (.one (.int .i64))), (8, (.one (.int .i64)))] (.seq none (.seq none (.region [] (.ops 4 .done)) (.cond none .leaf .leaf)) (.seq (some (8323200, [(7, (.one (.int .i64)))])) (.block (.seq none (.region [] (.ops 5 .done)) (.cond none (.region [] (.ops 3 .done)) .leaf))) (.region [] (.ops 3 .done))))))) (.seq none (.region [] (.ops 6 .done)) .leaf))))
theorem F94_tie (a0 : Sl) (a1 : Int) (a2 : Int) (K : Value → World → Prop) : vcgF tab Tryz.prog Tryz.f94 h94 [(.slice a0.a a0.len a0.cap), (.int .i64 a1), (.int .i64 a2)] (.one (.one .any)) K = F94 a0 a1 a2 K := by kernel_rfl
theorem F94_calls {a0 : Sl} {a1 : Int} {a2 : Int} {K : Value → World → Prop} {w : World} (h : F94 a0 a1 a2 K w) : callT Tryz.prog 94 #[(.slice a0.a a0.len a0.cap), (.int .i64 a1), (.int .i64 a2)] (.one (.one .any)) K w :=
  vcgF_sound tabOk Tryz.func94 h94 [(.slice a0.a a0.len a0.cap), (.int .i64 a1), (.int .i64 a2)] (.one (.one .any)) K w (Eq.mpr (congrFun (F94_tie a0 a1 a2 K) w) h)
noncomputable def F95 (a0 : (Unit)) (a1 : Sl) (K : (Int × Int × Unit) → World → Prop) : World → Prop :=
 newO (.cells #[] 180) fun b1 =>
 callT Tryz.prog 135 #[(.slice a1.a a1.len a1.cap)] (.tup [(.one (.int .i64)), (.one (.int .i64))]) fun (x2 : (Int × Int × Unit)) =>
 join (S := Bool × Unit) (fun J3 =>
 sif (x2.2.1 == (0 : Int)) (
 J3 (true, ())) (
 J3 ((decide (x2.1 < x2.2.1)), ()))) fun (s4 : Bool × Unit) =>
 sif s4.1 (
 ix a1.a a1.len (0 : Int) fun p5 =>
 ld (.int .u8) (p5.add (scaled (Int.toNat (0 : Int)) 1)) fun (x6 : Int) =>
 K ((IntKind.wrap .i64 ((-1 : Int) - (IntKind.wrap .i64 x6))), (1 : Int), ())) (
 ix a1.a a1.len (0 : Int) fun p7 =>
 ld (.int .u8) (p7.add (scaled (Int.toNat (0 : Int)) 1)) fun (x8 : Int) =>
 join (S := Int × Unit) (fun J9 =>
 sif (x2.2.1 == (2 : Int)) (
 J9 ((IntKind.wrap .i64 ((BitVec.toNat (BitVec.ofInt (IntKind.bits .i64) (IntKind.wrap .i64 x8) &&& BitVec.ofInt (IntKind.bits .i64) (31 : Int)) : Nat) : Int)), ())) (
 sif (x2.2.1 == (3 : Int)) (
 J9 ((IntKind.wrap .i64 ((BitVec.toNat (BitVec.ofInt (IntKind.bits .i64) (IntKind.wrap .i64 x8) &&& BitVec.ofInt (IntKind.bits .i64) (15 : Int)) : Nat) : Int)), ())) (
 sif (x2.2.1 == (4 : Int)) (
 J9 ((IntKind.wrap .i64 ((BitVec.toNat (BitVec.ofInt (IntKind.bits .i64) (IntKind.wrap .i64 x8) &&& BitVec.ofInt (IntKind.bits .i64) (7 : Int)) : Nat) : Int)), ())) (
 J9 ((IntKind.wrap .i64 x8), ()))))) fun (s10 : Int × Unit) =>
 join (S := Int × Unit) (fun J11 =>
 slc a1.a (1 : Int) x2.2.1 ((a1.cap : Nat) : Int) a1.cap 1 fun x13 =>
 sloop (S := Int × Int × Unit) (fun (s14 : Int × Int × Unit) again15 =>
 sif (decide (s14.2.1 < ((x13.len : Nat) : Int))) (
 ix x13.a x13.len s14.2.1 fun p16 =>
 ld (.int .u8) (p16.add (scaled (Int.toNat s14.2.1) 1)) fun (x17 : Int) =>
 chk (0 ≤ (6 : Int)) <|
 again15 ((IntKind.wrap .i64 ((BitVec.toNat (BitVec.ofInt (IntKind.bits .i64) (IntKind.wrap .i64 (s14.1 * 2 ^ (min (Int.toNat (6 : Int)) (IntKind.bits .i64)))) ||| BitVec.ofInt (IntKind.bits .i64) (IntKind.wrap .i64 (IntKind.wrap .u8 ((BitVec.toNat (BitVec.ofInt (IntKind.bits .u8) x17 &&& BitVec.ofInt (IntKind.bits .u8) (63 : Int)) : Nat) : Int)))) : Nat) : Int)), (IntKind.wrap .i64 (s14.2.1 + (1 : Int))), ())) (
 J11 (s14.1, ()))) (s10.1, (0 : Int), ())) fun (s12 : Int × Unit) =>
 K (s12.1, x2.2.1, ()))
noncomputable def h95 : Hint := (.seq none (.region [] (.ops 3 .done)) (.seq none (.region [] (.ops 7 .done)) (.seq none (.seq (some (8323072, [(22, (.one .bool))])) (.region [] (.ops 3 (.split 18 (.skips 3 (.ops 1 .done)) (.ops 4 .done)))) (.cond none (.seq none (.region [] (.ops 7 .done)) .leaf) .leaf)) (.seq none (.region [] (.ops 5 .done)) (.seq (some (35180077121792, [(8, (.one (.int .i64)))])) (.seq none (.region [] (.ops 1 .done)) (.block (.seq none (.region [] (.ops 2 .done)) (.cond none (.region [] (.ops 3 .done)) (.seq none (.region [] (.ops 2 .done)) (.cond none (.region [] (.ops 3 .done)) (.seq none (.region [] (.ops 2 .done)) (.cond none (.region [] (.ops 3 .done)) .leaf)))))))) (.seq (some (1152886320234759424, [(8, (.one (.int .i64)))])) (.seq none (.region [] (.ops 5 .done)) (.block (.loop 1152358554653426944 [(8, (.one (.int .i64))), (49, (.one (.int .i64)))] (.seq none (.region [] (.ops 1 .done)) (.seq none (.cond none .leaf .leaf) (.seq none (.block (.seq none (.region [] (.ops 3 .done)) (.region [] (.ops 7 .done)))) (.region [] (.ops 2 .done)))))))) (.seq none (.region [] (.ops 4 .done)) .leaf)))))))
theorem F95_tie (a0 : (Unit)) (a1 : Sl) (K : (Int × Int × Unit) → World → Prop) : vcgF tab Tryz.prog Tryz.f95 h95 [(.agg (Cells.vals c180 a0).toArray), (.slice a1.a a1.len a1.cap)] (.tup [(.one (.int .i64)), (.one (.int .i64))]) K = F95 a0 a1 K := by kernel_rfl
theorem F95_calls {a0 : (Unit)} {a1 : Sl} {K : (Int × Int × Unit) → World → Prop} {w : World} (h : F95 a0 a1 K w) : callT Tryz.prog 95 #[(.agg (Cells.vals c180 a0).toArray), (.slice a1.a a1.len a1.cap)] (.tup [(.one (.int .i64)), (.one (.int .i64))]) K w :=
  vcgF_sound tabOk Tryz.func95 h95 [(.agg (Cells.vals c180 a0).toArray), (.slice a1.a a1.len a1.cap)] (.tup [(.one (.int .i64)), (.one (.int .i64))]) K w (Eq.mpr (congrFun (F95_tie a0 a1 K) w) h)
noncomputable def F98 (a0 : Value) (v0 : Addr) (v1 : Addr) (K : Unit → World → Prop) : World → Prop :=
 chk (oneAll [a0] = true) <|
 newO (.cells #[a0] 183) fun b1 =>
 newO (.cells #[.nilFunc] 184) fun b2 =>
 chk (isOne (.func (Fn.func 99) #[] #[(.pointer (some (at0 b2))), (.pointer (some (at0 b1)))]) = true) <|
 stC (at0 b2) (.func (Fn.func 99) #[] #[(.pointer (some (at0 b2))), (.pointer (some (at0 b1)))]) <|
 ld (.any) (at0 b2) fun (x3 : Value) =>
 ld (.ptr) v0 fun (x4 : Option Addr) =>
 ld (.int .i64) v1 fun (x5 : Int) =>
 callX Tryz.prog (do let d ← Deferred.ofValue x3 #[(.pointer x4), (.int .i64 (if x5 > (0 : Int) then x5 else (0 : Int)))]; invoke d.target d.args : Sem Next) (.one (.one .bool)) fun (x6 : Bool) =>
 K ()
noncomputable def h98 : Hint := (.seq none (.region [] (.ops 1 .done)) (.seq none (.region [] (.ops 1 .done)) (.seq none (.region [] (.ops 2 .done)) (.region [] (.ops 6 .done)))))
theorem F98_tie (a0 : Value) (v0 : Addr) (v1 : Addr) (K : Unit → World → Prop) : vcgF tab Tryz.prog Tryz.f98 h98 [a0, (.pointer (some v0)), (.pointer (some v1))] (.tup []) K = F98 a0 v0 v1 K := by kernel_rfl
theorem F98_calls {a0 : Value} {v0 : Addr} {v1 : Addr} {K : Unit → World → Prop} {w : World} (h : F98 a0 v0 v1 K w) : callT Tryz.prog 98 #[a0, (.pointer (some v0)), (.pointer (some v1))] (.tup []) K w :=
  vcgF_sound tabOk Tryz.func98 h98 [a0, (.pointer (some v0)), (.pointer (some v1))] (.tup []) K w (Eq.mpr (congrFun (F98_tie a0 v0 v1 K) w) h)
noncomputable def F99 (a0 : Option Addr) (a1 : Int) (v0 : Addr) (v1 : Addr) (K : Bool → World → Prop) : World → Prop :=
 join (S := Bool × Unit) (fun J1 =>
 sif (Option.isNone a0) (
 J1 (true, ())) (
 nn a0 fun p3 =>
 ld (.int .i64) (p3.add 9) fun (x4 : Int) =>
 J1 ((decide (a1 ≥ x4)), ()))) fun (s2 : Bool × Unit) =>
 sif s2.1 (
 K true) (
 nn a0 fun p5 =>
 ld (.ptr) p5 fun (x6 : Option Addr) =>
 callT Tryz.prog 100 #[(.pointer x6)] (.one (.one (.int .i64))) fun (x7 : Int) =>
 join (S := Bool × Unit) (fun J8 =>
 drew <|
 sif (decide (a1 < x7)) (
 ld (.any) v0 fun (x10 : Value) =>
 nn a0 fun p11 =>
 ld (.ptr) p11 fun (x12 : Option Addr) =>
 callX Tryz.prog (do let d ← Deferred.ofValue x10 #[(.pointer x12), (.int .i64 a1)]; invoke d.target d.args : Sem Next) (.one (.one .bool)) fun (x13 : Bool) =>
 J8 ((!x13), ())) (
 J8 (false, ()))) fun (s9 : Bool × Unit) =>
 sif s9.1 (
 K false) (
 join (S := Bool × Unit) (fun J14 =>
 drew <|
 sif (decide (a1 ≤ x7)) (
 ld (.any) v1 fun (x16 : Value) =>
 nn a0 fun p17 =>
 lds c146 (p17.add 2) fun (x18 : (Sl × Int × Int × Int × Int × Bool × Bool × Unit)) =>
 callX Tryz.prog (do let d ← Deferred.ofValue x16 #[(.agg (Cells.vals c146 x18).toArray)]; invoke d.target d.args : Sem Next) (.one (.one .bool)) fun (x19 : Bool) =>
 J14 ((!x19), ())) (
 J14 (false, ()))) fun (s15 : Bool × Unit) =>
 sif s15.1 (
 K false) (
 drew <|
 ld (.any) v0 fun (x20 : Value) =>
 nn a0 fun p21 =>
 ld (.ptr) (p21.add 1) fun (x22 : Option Addr) =>
 callX Tryz.prog (do let d ← Deferred.ofValue x20 #[(.pointer x22), (.int .i64 (if (IntKind.wrap .i64 ((IntKind.wrap .i64 (a1 - x7)) - (1 : Int))) > (0 : Int) then (IntKind.wrap .i64 ((IntKind.wrap .i64 (a1 - x7)) - (1 : Int))) else (0 : Int)))]; invoke d.target d.args : Sem Next) (.one (.one .bool)) fun (x23 : Bool) =>
 K x23)))
noncomputable def h99 : Hint := (.seq none (.region [] (.ops 1 .done)) (.seq none (.seq (some (261888, [(17, (.one .bool))])) (.region [] (.ops 3 (.split 10 (.skips 6 (.ops 1 .done)) (.ops 7 .done)))) (.cond none (.seq none (.region [] (.ops 1 .done)) .leaf) .leaf)) (.seq none (.region [] (.ops 6 .done)) (.seq none (.seq (some (68711088128, [(35, (.one .bool))])) (.region [0, 1, 2, 3, 4, 5, 6, 7, 8, 9, 10, 11, 12] (.ops 4 (.split 26 (.ops 9 .done) (.skips 8 (.ops 1 .done))))) (.cond none (.seq none (.region [] (.ops 1 .done)) .leaf) .leaf)) (.seq none (.seq (some (281406257233920, [(47, (.one .bool))])) (.region [0, 1, 2, 3, 4, 5, 6, 7, 8, 9, 10, 11] (.ops 4 (.split 39 (.ops 8 .done) (.skips 7 (.ops 1 .done))))) (.cond none (.seq none (.region [] (.ops 1 .done)) .leaf) .leaf)) (.seq none (.region [0, 1, 2, 3, 4, 5, 6, 7, 8, 9, 10, 11] (.ops 12 .done)) .leaf))))))
theorem F99_tie (a0 : Option Addr) (a1 : Int) (v0 : Addr) (v1 : Addr) (K : Bool → World → Prop) : vcgF tab Tryz.prog Tryz.f99 h99 [(.pointer a0), (.int .i64 a1), (.pointer (some v0)), (.pointer (some v1))] (.one (.one .bool)) K = F99 a0 a1 v0 v1 K := by kernel_rfl
theorem F99_calls {a0 : Option Addr} {a1 : Int} {v0 : Addr} {v1 : Addr} {K : Bool → World → Prop} {w : World} (h : F99 a0 a1 v0 v1 K w) : callT Tryz.prog 99 #[(.pointer a0), (.int .i64 a1), (.pointer (some v0)), (.pointer (some v1))] (.one (.one .bool)) K w :=
  vcgF_sound tabOk Tryz.func99 h99 [(.pointer a0), (.int .i64 a1), (.pointer (some v0)), (.pointer (some v1))] (.one (.one .bool)) K w (Eq.mpr (congrFun (F99_tie a0 a1 v0 v1 K) w) h)
noncomputable def F100 (a0 : Option Addr) (K : Int → World → Prop) : World → Prop :=
 sif (Option.isNone a0) (
 K (0 : Int)) (
 nn a0 fun p1 =>
 ld (.int .i64) (p1.add 9) fun (x2 : Int) =>
 K x2)
noncomputable def h100 : Hint := (.seq none (.region [] (.ops 1 .done)) (.seq none (.seq none (.region [] (.ops 2 .done)) (.cond none (.seq none (.region [] (.ops 1 .done)) .leaf) .leaf)) (.seq none (.region [] (.ops 5 .done)) .leaf)))
theorem F100_tie (a0 : Option Addr) (K : Int → World → Prop) : vcgF tab Tryz.prog Tryz.f100 h100 [(.pointer a0)] (.one (.one (.int .i64))) K = F100 a0 K := by kernel_rfl
theorem F100_calls {a0 : Option Addr} {K : Int → World → Prop} {w : World} (h : F100 a0 K w) : callT Tryz.prog 100 #[(.pointer a0)] (.one (.one (.int .i64))) K w :=
  vcgF_sound tabOk Tryz.func100 h100 [(.pointer a0)] (.one (.one (.int .i64))) K w (Eq.mpr (congrFun (F100_tie a0 K) w) h)
noncomputable def F126 (a0 : Int) (K : Value → World → Prop) : World → Prop :=
 sif (a0 == (1 : Int)) (
 K (.iface 180 (.agg #[]))) (
 sif (a0 == (2 : Int)) (
 K (.iface 263 (.agg #[(.int .i64 (0 : Int))]))) (
 sif (a0 == (3 : Int)) (
 K (.iface 263 (.agg #[(.int .i64 (1 : Int))]))) (
 sif (a0 == (4 : Int)) (
 K (.iface 264 (.agg #[]))) (
 K .nilIface))))
noncomputable def h126 : Hint := (.seq none (.region [] (.ops 1 .done)) (.seq none (.seq none (.region [] (.ops 1 .done)) (.block (.seq none (.region [] (.ops 2 .done)) (.cond none (.seq none (.region [] (.ops 3 .done)) .leaf) (.seq none (.region [] (.ops 2 .done)) (.cond none (.seq none (.region [] (.ops 3 .done)) .leaf) (.seq none (.region [] (.ops 2 .done)) (.cond none (.seq none (.region [] (.ops 3 .done)) .leaf) (.seq none (.region [] (.ops 2 .done)) (.cond none (.seq none (.region [] (.ops 3 .done)) .leaf) .leaf)))))))))) (.seq none (.region [] (.ops 1 .done)) .leaf)))
theorem F126_tie (a0 : Int) (K : Value → World → Prop) : vcgF tab Tryz.prog Tryz.f126 h126 [(.int .i64 a0)] (.one (.one .any)) K = F126 a0 K := by kernel_rfl
theorem F126_calls {a0 : Int} {K : Value → World → Prop} {w : World} (h : F126 a0 K w) : callT Tryz.prog 126 #[(.int .i64 a0)] (.one (.one .any)) K w :=
  vcgF_sound tabOk Tryz.func126 h126 [(.int .i64 a0)] (.one (.one .any)) K w (Eq.mpr (congrFun (F126_tie a0 K) w) h)
noncomputable def F127 (a0 : (Int × Int × Int × Bool × Bool × Unit)) (a1 : (Int × Int × Int × Bool × Bool × Unit)) (K : (Int × Int × Int × Bool × Bool × Unit) → World → Prop) : World → Prop :=
 newO (.cells #[(.int .i64 a0.1), (.int .i64 a0.2.1), (.int .i64 a0.2.2.1), (.bool a0.2.2.2.1), (.bool a0.2.2.2.2.1)] 144) fun b1 =>
 newO (.cells #[(.int .i64 a1.1), (.int .i64 a1.2.1), (.int .i64 a1.2.2.1), (.bool a1.2.2.2.1), (.bool a1.2.2.2.2.1)] 144) fun b2 =>
 newO (.cells #[(.int .i64 (0 : Int)), (.int .i64 (0 : Int)), (.int .i64 (0 : Int)), (.bool false), (.bool false)] 144) fun b3 =>
 ld (.int .i64) (at0 b1) fun (x4 : Int) =>
 sif (x4 == (0 : Int)) (
 lds c144 (at0 b2) fun (x5 : (Int × Int × Int × Bool × Bool × Unit)) =>
 aggSt (at0 b3) (.agg (Cells.vals c144 x5).toArray) 5 <|
 lds c144 (at0 b3) fun (x6 : (Int × Int × Int × Bool × Bool × Unit)) =>
 K x6) (
 ld (.int .i64) (at0 b2) fun (x7 : Int) =>
 sif (x7 == (0 : Int)) (
 lds c144 (at0 b1) fun (x8 : (Int × Int × Int × Bool × Bool × Unit)) =>
 aggSt (at0 b3) (.agg (Cells.vals c144 x8).toArray) 5 <|
 lds c144 (at0 b3) fun (x9 : (Int × Int × Int × Bool × Bool × Unit)) =>
 K x9) (
 ld (.int .i64) (at0 b1) fun (x10 : Int) =>
 ld (.int .i64) (at0 b2) fun (x11 : Int) =>
 ld (.int .i64) (⟨b1, 1, none⟩ : Addr) fun (x12 : Int) =>
 ld (.int .i64) (⟨b2, 1, none⟩ : Addr) fun (x13 : Int) =>
 ld (.int .i64) (⟨b1, 2, none⟩ : Addr) fun (x14 : Int) =>
 ld (.int .i64) (⟨b2, 2, none⟩ : Addr) fun (x15 : Int) =>
 ld (.bool) (⟨b1, 3, none⟩ : Addr) fun (x16 : Bool) =>
 ld (.bool) (⟨b2, 4, none⟩ : Addr) fun (x17 : Bool) =>
 newO (.cells #[(.int .i64 (0 : Int)), (.int .i64 (0 : Int)), (.int .i64 (0 : Int)), (.bool false), (.bool false)] 144) fun b18 =>
 aggSt (at0 b18) (.agg #[(.int .i64 (IntKind.wrap .i64 (x10 + x11))), (.int .i64 (IntKind.wrap .i64 (x12 + x13))), (.int .i64 (IntKind.wrap .i64 (x14 + x15))), (.bool x16), (.bool x17)]) 5 <|
 join (S := Unit) (fun J19 =>
 join (S := Bool × Unit) (fun J21 =>
 ld (.bool) (⟨b1, 4, none⟩ : Addr) fun (x23 : Bool) =>
 sif x23 (
 ld (.bool) (⟨b2, 3, none⟩ : Addr) fun (x24 : Bool) =>
 J21 (x24, ())) (
 J21 (false, ()))) fun (s22 : Bool × Unit) =>
 sif s22.1 (
 ld (.int .i64) (⟨b18, 2, none⟩ : Addr) fun (x25 : Int) =>
 stC (⟨b18, 2, none⟩ : Addr) (.int .i64 (IntKind.wrap .i64 (x25 - (1 : Int)))) <|
 J19 ()) (
 J19 ())) fun (s20 : Unit) =>
 lds c144 (at0 b18) fun (x26 : (Int × Int × Int × Bool × Bool × Unit)) =>
 aggSt (at0 b3) (.agg (Cells.vals c144 x26).toArray) 5 <|
 lds c144 (at0 b3) fun (x27 : (Int × Int × Int × Bool × Bool × Unit)) =>
 K x27))
noncomputable def h127 : Hint := (.seq none (.region [] (.ops 3 .done)) (.seq none (.seq none (.region [] (.ops 3 .done)) (.cond none (.seq none (.region [] (.ops 2 .done)) .leaf) .leaf)) (.seq none (.seq none (.region [] (.ops 3 .done)) (.cond none (.seq none (.region [] (.ops 2 .done)) .leaf) .leaf)) (.seq none (.region [] (.ops 22 .done)) (.seq (some (17575006175232, [])) (.seq (some (1082331758592, [(39, (.one .bool))])) (.region [] (.ops 3 (.split 36 (.ops 3 .done) (.skips 2 (.ops 1 .done))))) (.cond none (.region [] (.ops 5 .done)) .leaf)) (.seq none (.region [] (.ops 2 .done)) .leaf))))))
theorem F127_tie (a0 : (Int × Int × Int × Bool × Bool × Unit)) (a1 : (Int × Int × Int × Bool × Bool × Unit)) (K : (Int × Int × Int × Bool × Bool × Unit) → World → Prop) : vcgF tab Tryz.prog Tryz.f127 h127 [(.agg (Cells.vals c144 a0).toArray), (.agg (Cells.vals c144 a1).toArray)] (.one (.agg c144)) K = F127 a0 a1 K := by kernel_rfl
theorem F127_calls {a0 : (Int × Int × Int × Bool × Bool × Unit)} {a1 : (Int × Int × Int × Bool × Bool × Unit)} {K : (Int × Int × Int × Bool × Bool × Unit) → World → Prop} {w : World} (h : F127 a0 a1 K w) : callT Tryz.prog 127 #[(.agg (Cells.vals c144 a0).toArray), (.agg (Cells.vals c144 a1).toArray)] (.one (.agg c144)) K w :=
  vcgF_sound tabOk Tryz.func127 h127 [(.agg (Cells.vals c144 a0).toArray), (.agg (Cells.vals c144 a1).toArray)] (.one (.agg c144)) K w (Eq.mpr (congrFun (F127_tie a0 a1 K) w) h)
noncomputable def F128 (a0 : Int) (a1 : Int) (K : (Int × Int × Int × Bool × Bool × Unit) → World → Prop) : World → Prop :=
 newO (.cells #[(.int .i64 (0 : Int)), (.int .i64 (0 : Int)), (.int .i64 (0 : Int)), (.bool false), (.bool false)] 144) fun b1 =>
 newO (.cells #[(.int .i64 (0 : Int)), (.int .i64 (0 : Int)), (.int .i64 (0 : Int)), (.bool false), (.bool false)] 144) fun b2 =>
 aggSt (at0 b2) (.agg #[(.int .i64 (1 : Int)), (.int .i64 a1), (.int .i64 (0 : Int)), (.bool (a0 == (10 : Int))), (.bool (a0 == (13 : Int)))]) 5 <|
 join (S := Unit) (fun J3 =>
 join (S := Bool × Unit) (fun J5 =>
 ld (.bool) (⟨b2, 3, none⟩ : Addr) fun (x7 : Bool) =>
 sif x7 (
 J5 (true, ())) (
 ld (.bool) (⟨b2, 4, none⟩ : Addr) fun (x8 : Bool) =>
 J5 (x8, ()))) fun (s6 : Bool × Unit) =>
 sif s6.1 (
 stC (⟨b2, 2, none⟩ : Addr) (.int .i64 (1 : Int)) <|
 J3 ()) (
 J3 ())) fun (s4 : Unit) =>
 lds c144 (at0 b2) fun (x9 : (Int × Int × Int × Bool × Bool × Unit)) =>
 aggSt (at0 b1) (.agg (Cells.vals c144 x9).toArray) 5 <|
 lds c144 (at0 b1) fun (x10 : (Int × Int × Int × Bool × Bool × Unit)) =>
 K x10
noncomputable def h128 : Hint := (.seq none (.region [] (.ops 1 .done)) (.seq none (.region [] (.ops 8 .done)) (.seq (some (520192, [])) (.seq (some (258048, [(17, (.one .bool))])) (.region [] (.ops 3 (.split 14 (.skips 2 (.ops 1 .done)) (.ops 3 .done)))) (.cond none (.region [] (.ops 2 .done)) .leaf)) (.seq none (.region [] (.ops 2 .done)) .leaf))))
theorem F128_tie (a0 : Int) (a1 : Int) (K : (Int × Int × Int × Bool × Bool × Unit) → World → Prop) : vcgF tab Tryz.prog Tryz.f128 h128 [(.int .i64 a0), (.int .i64 a1)] (.one (.agg c144)) K = F128 a0 a1 K := by kernel_rfl
theorem F128_calls {a0 : Int} {a1 : Int} {K : (Int × Int × Int × Bool × Bool × Unit) → World → Prop} {w : World} (h : F128 a0 a1 K w) : callT Tryz.prog 128 #[(.int .i64 a0), (.int .i64 a1)] (.one (.agg c144)) K w :=
  vcgF_sound tabOk Tryz.func128 h128 [(.int .i64 a0), (.int .i64 a1)] (.one (.agg c144)) K w (Eq.mpr (congrFun (F128_tie a0 a1 K) w) h)
noncomputable def F129 (a0 : Sl) (K : Option Addr → World → Prop) : World → Prop :=
 sif (((a0.len : Nat) : Int) == (0 : Int)) (
 K none) (
 chk ((2 : Int) ≠ 0) <|
 drew <|
 slc a0.a 0 (IntKind.wrap .i64 (Int.tdiv ((a0.len : Nat) : Int) (2 : Int))) ((a0.cap : Nat) : Int) a0.cap 7 fun x1 =>
 ix a0.a a0.len (IntKind.wrap .i64 (Int.tdiv ((a0.len : Nat) : Int) (2 : Int))) fun p2 =>
 lds c146 (p2.add (scaled (Int.toNat (IntKind.wrap .i64 (Int.tdiv ((a0.len : Nat) : Int) (2 : Int)))) 7)) fun (x3 : (Sl × Int × Int × Int × Int × Bool × Bool × Unit)) =>
 slc a0.a (IntKind.wrap .i64 ((IntKind.wrap .i64 (Int.tdiv ((a0.len : Nat) : Int) (2 : Int))) + (1 : Int))) ((a0.len : Nat) : Int) ((a0.cap : Nat) : Int) a0.cap 7 fun x4 =>
 callT Tryz.prog 129 #[(.slice x1.a x1.len x1.cap)] (.one (.one .ptr)) fun (x5 : Option Addr) =>
 keep (fun w => cellsAt w (p2.add (scaled (Int.toNat (IntKind.wrap .i64 (Int.tdiv ((a0.len : Nat) : Int) (2 : Int)))) 7)) 0 (Cells.vals c146 x3)) <|
 callT Tryz.prog 129 #[(.slice x4.a x4.len x4.cap)] (.one (.one .ptr)) fun (x6 : Option Addr) =>
 keep (fun w => cellsAt w (p2.add (scaled (Int.toNat (IntKind.wrap .i64 (Int.tdiv ((a0.len : Nat) : Int) (2 : Int)))) 7)) 0 (Cells.vals c146 x3)) <|
 callT Tryz.prog 158 #[(.pointer x5), (.agg (Cells.vals c146 x3).toArray), (.pointer x6)] (.one (.one .ptr)) fun (x7 : Option Addr) =>
 K x7)
noncomputable def h129 : Hint := (.seq none (.region [] (.ops 1 .done)) (.seq none (.seq none (.region [] (.ops 3 .done)) (.cond none (.seq none (.region [] (.ops 1 .done)) .leaf) .leaf)) (.seq none (.region [] (.ops 4 .done)) (.seq none (.region [0, 1, 2, 4, 5, 6, 7, 8, 9, 10, 11, 3, 12, 13, 14] (.ops 15 .done)) .leaf))))
theorem F129_tie (a0 : Sl) (K : Option Addr → World → Prop) : vcgF tab Tryz.prog Tryz.f129 h129 [(.slice a0.a a0.len a0.cap)] (.one (.one .ptr)) K = F129 a0 K := by kernel_rfl
theorem F129_calls {a0 : Sl} {K : Option Addr → World → Prop} {w : World} (h : F129 a0 K w) : callT Tryz.prog 129 #[(.slice a0.a a0.len a0.cap)] (.one (.one .ptr)) K w :=
  vcgF_sound tabOk Tryz.func129 h129 [(.slice a0.a a0.len a0.cap)] (.one (.one .ptr)) K w (Eq.mpr (congrFun (F129_tie a0 K) w) h)
noncomputable def F135 (a0 : Sl) (K : (Int × Int × Unit) → World → Prop) : World → Prop :=
 ix a0.a a0.len (0 : Int) fun p1 =>
 ld (.int .u8) (p1.add (scaled (Int.toNat (0 : Int)) 1)) fun (x2 : Int) =>
 callT Tryz.prog 165 #[(.int .u8 x2)] (.tup [(.one (.int .i64)), (.one (.int .u8)), (.one (.int .u8))]) fun (x3 : (Int × Int × Int × Unit)) =>
 sif (decide (x3.1 < (2 : Int))) (
 K (x3.1, x3.1, ())) (
 join (S := Bool × Unit) (fun J4 =>
 sif (decide (((a0.len : Nat) : Int) < (2 : Int))) (
 J4 (true, ())) (
 ix a0.a a0.len (1 : Int) fun p6 =>
 ld (.int .u8) (p6.add (scaled (Int.toNat (1 : Int)) 1)) fun (x7 : Int) =>
 sif (decide (x7 < x3.2.1)) (
 J4 (true, ())) (
 ix a0.a a0.len (1 : Int) fun p8 =>
 ld (.int .u8) (p8.add (scaled (Int.toNat (1 : Int)) 1)) fun (x9 : Int) =>
 J4 ((decide (x9 > x3.2.2.1)), ())))) fun (s5 : Bool × Unit) =>
 sif s5.1 (
 K ((1 : Int), x3.1, ())) (
 join (S := Int × Unit) (fun J10 =>
 sloop (S := Int × Unit) (fun (s12 : Int × Unit) again13 =>
 join (S := Bool × Unit) (fun J14 =>
 sif (decide (s12.1 < x3.1)) (
 sif (decide (s12.1 < ((a0.len : Nat) : Int))) (
 ix a0.a a0.len s12.1 fun p16 =>
 ld (.int .u8) (p16.add (scaled (Int.toNat s12.1) 1)) fun (x17 : Int) =>
 J14 (((IntKind.wrap .u8 ((BitVec.toNat (BitVec.ofInt (IntKind.bits .u8) x17 &&& BitVec.ofInt (IntKind.bits .u8) (192 : Int)) : Nat) : Int)) == (128 : Int)), ())) (
 J14 (false, ()))) (
 J14 (false, ()))) fun (s15 : Bool × Unit) =>
 sif s15.1 (
 again13 ((IntKind.wrap .i64 (s12.1 + (1 : Int))), ())) (
 J10 (s12.1, ()))) ((2 : Int), ())) fun (s11 : Int × Unit) =>
 K (s11.1, x3.1, ())))
noncomputable def h135 : Hint := (.seq none (.region [] (.ops 2 .done)) (.seq none (.region [] (.ops 11 .done)) (.seq none (.seq none (.region [] (.ops 2 .done)) (.cond none (.seq none (.region [] (.ops 4 .done)) .leaf) .leaf)) (.seq none (.seq (some (137437904896, [(36, (.one .bool))])) (.region [] (.ops 4 (.split 23 (.skips 5 (.ops 2 (.skips 5 (.ops 1 .done)))) (.ops 7 (.split 30 (.skips 5 (.ops 1 .done)) (.ops 6 .done)))))) (.cond none (.seq none (.region [] (.ops 3 .done)) .leaf) .leaf)) (.seq none (.region [] (.ops 1 .done)) (.seq (some (144114913197949056, [(7, (.one (.int .i64)))])) (.block (.loop 144114913197949056 [(7, (.one (.int .i64)))] (.seq none (.seq (some (36028522141057024, [(54, (.one .bool))])) (.region [] (.ops 4 (.split 41 (.ops 6 (.split 47 (.ops 7 .done) (.skips 6 (.ops 1 .done)))) (.skips 4 (.ops 2 (.skips 6 (.ops 1 .done))))))) (.cond none .leaf .leaf)) (.block (.region [] (.ops 3 .done)))))) (.seq none (.region [] (.ops 4 .done)) .leaf)))))))
theorem F135_tie (a0 : Sl) (K : (Int × Int × Unit) → World → Prop) : vcgF tab Tryz.prog Tryz.f135 h135 [(.slice a0.a a0.len a0.cap)] (.tup [(.one (.int .i64)), (.one (.int .i64))]) K = F135 a0 K := by kernel_rfl
theorem F135_calls {a0 : Sl} {K : (Int × Int × Unit) → World → Prop} {w : World} (h : F135 a0 K w) : callT Tryz.prog 135 #[(.slice a0.a a0.len a0.cap)] (.tup [(.one (.int .i64)), (.one (.int .i64))]) K w :=
  vcgF_sound tabOk Tryz.func135 h135 [(.slice a0.a a0.len a0.cap)] (.tup [(.one (.int .i64)), (.one (.int .i64))]) K w (Eq.mpr (congrFun (F135_tie a0 K) w) h)
noncomputable def F158 (a0 : Option Addr) (a1 : (Sl × Int × Int × Int × Int × Bool × Bool × Unit)) (a2 : Option Addr) (K : Option Addr → World → Prop) : World → Prop :=
 newO (.cells #[(.slice a1.1.a a1.1.len a1.1.cap), (.int .i64 a1.2.1), (.int .i64 a1.2.2.1), (.int .i64 a1.2.2.2.1), (.int .i64 a1.2.2.2.2.1), (.bool a1.2.2.2.2.2.1), (.bool a1.2.2.2.2.2.2.1)] 146) fun b1 =>
 drew <|
 lds c146 (at0 b1) fun (x2 : (Sl × Int × Int × Int × Int × Bool × Bool × Unit)) =>
 callT Tryz.prog 100 #[(.pointer a0)] (.one (.one (.int .i64))) fun (x3 : Int) =>
 keep (fun w => cellsAt w (at0 b1) 0 (Cells.vals c146 x2)) <|
 callT Tryz.prog 100 #[(.pointer a2)] (.one (.one (.int .i64))) fun (x4 : Int) =>
 keep (fun w => cellsAt w (at0 b1) 0 (Cells.vals c146 x2)) <|
 callT Tryz.prog 198 #[(.pointer a0)] (.one (.one (.int .i64))) fun (x5 : Int) =>
 keep (fun w => cellsAt w (at0 b1) 0 (Cells.vals c146 x2)) <|
 callT Tryz.prog 198 #[(.pointer a2)] (.one (.one (.int .i64))) fun (x6 : Int) =>
 keep (fun w => cellsAt w (at0 b1) 0 (Cells.vals c146 x2)) <|
 newO (.cells (Value.cells (.agg #[(.pointer a0), (.pointer a2), (.slice x2.1.a x2.1.len x2.1.cap), (.int .i64 x2.2.1), (.int .i64 x2.2.2.1), (.int .i64 x2.2.2.2.1), (.int .i64 x2.2.2.2.2.1), (.bool x2.2.2.2.2.2.1), (.bool x2.2.2.2.2.2.2.1), (.int .i64 (IntKind.wrap .i64 ((IntKind.wrap .i64 (x3 + (1 : Int))) + x4))), (.int .i64 (IntKind.wrap .i64 ((if x6 > x5 then x6 else x5) + (1 : Int)))), (.int .i64 (0 : Int)), (.int .i64 (0 : Int)), (.int .i64 (0 : Int)), (.bool false), (.bool false)])) 186) fun b7 =>
 lds c146 (at0 b1) fun (x8 : (Sl × Int × Int × Int × Int × Bool × Bool × Unit)) =>
 callX Tryz.prog (invoke (.fn (.method "Measure") #[]) (#[(.iface 146 (.agg (Cells.vals c146 x8).toArray))] ++ #[])) (.one (.agg c144)) fun (x9 : (Int × Int × Int × Bool × Bool × Unit)) =>
 nn (some (at0 b7)) fun p10 =>
 aggSt (p10.add 11) (.agg (Cells.vals c144 x9).toArray) 5 <|
 join (S := Unit) (fun J11 =>
 sif (!(Option.isNone a0)) (
 drew <|
 nn a0 fun p13 =>
 lds c144 (p13.add 11) fun (x14 : (Int × Int × Int × Bool × Bool × Unit)) =>
 nn (some (at0 b7)) fun p15 =>
 lds c144 (p15.add 11) fun (x16 : (Int × Int × Int × Bool × Bool × Unit)) =>
 callX Tryz.prog (invoke (.fn (.method "Add") #[]) (#[(.iface 144 (.agg (Cells.vals c144 x14).toArray))] ++ #[(.agg (Cells.vals c144 x16).toArray)])) (.one (.agg c144)) fun (x17 : (Int × Int × Int × Bool × Bool × Unit)) =>
 nn (some (at0 b7)) fun p18 =>
 aggSt (p18.add 11) (.agg (Cells.vals c144 x17).toArray) 5 <|
 J11 ()) (
 J11 ())) fun (s12 : Unit) =>
 join (S := Unit) (fun J19 =>
 sif (!(Option.isNone a2)) (
 drew <|
 nn (some (at0 b7)) fun p21 =>
 lds c144 (p21.add 11) fun (x22 : (Int × Int × Int × Bool × Bool × Unit)) =>
 nn a2 fun p23 =>
 lds c144 (p23.add 11) fun (x24 : (Int × Int × Int × Bool × Bool × Unit)) =>
 callX Tryz.prog (invoke (.fn (.method "Add") #[]) (#[(.iface 144 (.agg (Cells.vals c144 x22).toArray))] ++ #[(.agg (Cells.vals c144 x24).toArray)])) (.one (.agg c144)) fun (x25 : (Int × Int × Int × Bool × Bool × Unit)) =>
 nn (some (at0 b7)) fun p26 =>
 aggSt (p26.add 11) (.agg (Cells.vals c144 x25).toArray) 5 <|
 J19 ()) (
 J19 ())) fun (s20 : Unit) =>
 K (some (at0 b7))
noncomputable def h158 : Hint := (.seq none (.region [] (.ops 2 .done)) (.seq none (.region [0, 1, 2, 3, 6, 9, 11, 4, 5, 7, 8, 10, 12, 13, 14, 15, 16, 17] (.ops 18 .done)) (.seq none (.region [] (.ops 7 .done)) (.seq (some (70366596694016, [])) (.seq none (.region [] (.ops 2 .done)) (.cond none (.region [0, 1, 2, 3, 4, 5, 6, 7, 8, 9, 10, 11, 12, 13] (.ops 14 .done)) .leaf)) (.seq (some (2305772640469516288, [])) (.seq none (.region [] (.ops 2 .done)) (.cond none (.region [0, 1, 2, 3, 4, 5, 6, 7, 8, 9, 10, 11, 12, 13] (.ops 14 .done)) .leaf)) (.seq none (.region [] (.ops 2 .done)) .leaf))))))
theorem F158_tie (a0 : Option Addr) (a1 : (Sl × Int × Int × Int × Int × Bool × Bool × Unit)) (a2 : Option Addr) (K : Option Addr → World → Prop) : vcgF tab Tryz.prog Tryz.f158 h158 [(.pointer a0), (.agg (Cells.vals c146 a1).toArray), (.pointer a2)] (.one (.one .ptr)) K = F158 a0 a1 a2 K := by kernel_rfl
theorem F158_calls {a0 : Option Addr} {a1 : (Sl × Int × Int × Int × Int × Bool × Bool × Unit)} {a2 : Option Addr} {K : Option Addr → World → Prop} {w : World} (h : F158 a0 a1 a2 K w) : callT Tryz.prog 158 #[(.pointer a0), (.agg (Cells.vals c146 a1).toArray), (.pointer a2)] (.one (.one .ptr)) K w :=
  vcgF_sound tabOk Tryz.func158 h158 [(.pointer a0), (.agg (Cells.vals c146 a1).toArray), (.pointer a2)] (.one (.one .ptr)) K w (Eq.mpr (congrFun (F158_tie a0 a1 a2 K) w) h)
noncomputable def F165 (a0 : Int) (K : (Int × Int × Int × Unit) → World → Prop) : World → Prop :=
 sif (decide (a0 < (128 : Int))) (
 K ((1 : Int), (0 : Int), (0 : Int), ())) (
 sif (decide (a0 < (194 : Int))) (
 K ((0 : Int), (0 : Int), (0 : Int), ())) (
 sif (decide (a0 < (224 : Int))) (
 K ((2 : Int), (128 : Int), (191 : Int), ())) (
 sif (a0 == (224 : Int)) (
 K ((3 : Int), (160 : Int), (191 : Int), ())) (
 sif (a0 == (237 : Int)) (
 K ((3 : Int), (128 : Int), (159 : Int), ())) (
 sif (decide (a0 < (240 : Int))) (
 K ((3 : Int), (128 : Int), (191 : Int), ())) (
 sif (a0 == (240 : Int)) (
 K ((4 : Int), (144 : Int), (191 : Int), ())) (
 sif (decide (a0 < (244 : Int))) (
 K ((4 : Int), (128 : Int), (191 : Int), ())) (
 sif (a0 == (244 : Int)) (
 K ((4 : Int), (128 : Int), (143 : Int), ())) (
 K ((0 : Int), (0 : Int), (0 : Int), ()))))))))))
noncomputable def h165 : Hint := (.seq none (.region [] (.ops 3 .done)) (.seq none (.block (.seq none (.region [] (.ops 3 .done)) (.cond none (.seq none (.region [] (.ops 3 .done)) .leaf) (.seq none (.region [] (.ops 3 .done)) (.cond none (.seq none (.region [] (.ops 3 .done)) .leaf) (.seq none (.region [] (.ops 3 .done)) (.cond none (.seq none (.region [] (.ops 3 .done)) .leaf) (.seq none (.region [] (.ops 3 .done)) (.cond none (.seq none (.region [] (.ops 3 .done)) .leaf) (.seq none (.region [] (.ops 3 .done)) (.cond none (.seq none (.region [] (.ops 3 .done)) .leaf) (.seq none (.region [] (.ops 3 .done)) (.cond none (.seq none (.region [] (.ops 3 .done)) .leaf) (.seq none (.region [] (.ops 3 .done)) (.cond none (.seq none (.region [] (.ops 3 .done)) .leaf) (.seq none (.region [] (.ops 3 .done)) (.cond none (.seq none (.region [] (.ops 3 .done)) .leaf) (.seq none (.region [] (.ops 3 .done)) (.cond none (.seq none (.region [] (.ops 3 .done)) .leaf) .leaf))))))))))))))))))) (.seq none (.region [] (.ops 3 .done)) .leaf)))
theorem F165_tie (a0 : Int) (K : (Int × Int × Int × Unit) → World → Prop) : vcgF tab Tryz.prog Tryz.f165 h165 [(.int .u8 a0)] (.tup [(.one (.int .i64)), (.one (.int .u8)), (.one (.int .u8))]) K = F165 a0 K := by kernel_rfl
theorem F165_calls {a0 : Int} {K : (Int × Int × Int × Unit) → World → Prop} {w : World} (h : F165 a0 K w) : callT Tryz.prog 165 #[(.int .u8 a0)] (.tup [(.one (.int .i64)), (.one (.int .u8)), (.one (.int .u8))]) K w :=
  vcgF_sound tabOk Tryz.func165 h165 [(.int .u8 a0)] (.tup [(.one (.int .i64)), (.one (.int .u8)), (.one (.int .u8))]) K w (Eq.mpr (congrFun (F165_tie a0 K) w) h)
noncomputable def F168 (a0 : Option Addr) (a1 : Int) (K : Value → World → Prop) : World → Prop :=
 newO (.cells #[(.int .i64 a1)] 3) fun b1 =>
 nn a0 fun p2 =>
 lds c139 (p2.add 2) fun (x3 : (Option Addr × Unit)) =>
 newO (.cells #[(.pointer none)] 139) fun b4 =>
 aggSt (at0 b4) (.agg (Cells.vals c139 x3).toArray) 1 <|
 K (.func (Fn.func 200) #[] #[(.pointer (some (at0 b1))), (.pointer (some (at0 b4)))])
noncomputable def h168 : Hint := (.seq none (.region [] (.ops 2 .done)) (.seq none (.region [] (.ops 6 .done)) (.seq none (.region [] (.ops 2 .done)) .leaf)))
theorem F168_tie (a0 : Option Addr) (a1 : Int) (K : Value → World → Prop) : vcgF tab Tryz.prog Tryz.f168 h168 [(.pointer a0), (.int .i64 a1)] (.one (.one .any)) K = F168 a0 a1 K := by kernel_rfl
theorem F168_calls {a0 : Option Addr} {a1 : Int} {K : Value → World → Prop} {w : World} (h : F168 a0 a1 K w) : callT Tryz.prog 168 #[(.pointer a0), (.int .i64 a1)] (.one (.one .any)) K w :=
  vcgF_sound tabOk Tryz.func168 h168 [(.pointer a0), (.int .i64 a1)] (.one (.one .any)) K w (Eq.mpr (congrFun (F168_tie a0 a1 K) w) h)
noncomputable def F198 (a0 : Option Addr) (K : Int → World → Prop) : World → Prop :=
 sif (Option.isNone a0) (
 K (0 : Int)) (
 nn a0 fun p1 =>
 ld (.int .i64) (p1.add 10) fun (x2 : Int) =>
 K x2)
noncomputable def h198 : Hint := (.seq none (.region [] (.ops 1 .done)) (.seq none (.seq none (.region [] (.ops 2 .done)) (.cond none (.seq none (.region [] (.ops 1 .done)) .leaf) .leaf)) (.seq none (.region [] (.ops 5 .done)) .leaf)))
theorem F198_tie (a0 : Option Addr) (K : Int → World → Prop) : vcgF tab Tryz.prog Tryz.f198 h198 [(.pointer a0)] (.one (.one (.int .i64))) K = F198 a0 K := by kernel_rfl
theorem F198_calls {a0 : Option Addr} {K : Int → World → Prop} {w : World} (h : F198 a0 K w) : callT Tryz.prog 198 #[(.pointer a0)] (.one (.one (.int .i64))) K w :=
  vcgF_sound tabOk Tryz.func198 h198 [(.pointer a0)] (.one (.one (.int .i64))) K w (Eq.mpr (congrFun (F198_tie a0 K) w) h)
noncomputable def F200 (a0 : Value) (v0 : Addr) (v1 : Addr) (K : Unit → World → Prop) : World → Prop :=
 chk (oneAll [a0] = true) <|
 newO (.cells #[a0] 304) fun b1 =>
 ld (.int .i64) v0 fun (x2 : Int) =>
 sif (decide (x2 < (1 : Int))) (
 K ()) (
 newO (.cells #[(.slice none 0 0)] 30) fun b3 =>
 lds c139 v1 fun (x4 : (Option Addr × Unit)) =>
 callT Tryz.prog 70 #[(.agg (Cells.vals c139 x4).toArray), (.int .i64 (0 : Int))] (.one (.one .any)) fun (x5 : Value) =>
 rangeE (S := (Sl × Int × Int × Int × Int × Bool × Bool × Unit) × Unit) Tryz.prog (Slots.vals [(12, (.agg c146))]) x5 (fun l6 rc7 R8 (s9 : (Sl × Int × Int × Int × Int × Bool × Bool × Unit) × Unit) =>
 newO (.cells #[(.slice none 0 0), (.int .i64 (0 : Int)), (.int .i64 (0 : Int)), (.int .i64 (0 : Int)), (.int .i64 (0 : Int)), (.bool false), (.bool false)] 146) fun b11 =>
 aggSt (at0 b11) (.agg (Cells.vals c146 s9.1).toArray) 7 <|
 begR l6 rc7 <|
 ld (.sl) (at0 b11) fun (x12 : Sl) =>
 sloop (S := Sl × Unit) (fun (s13 : Sl × Unit) again14 =>
 sif (decide (((s13.1.len : Nat) : Int) > (0 : Int))) (
 ld (.int .i64) v0 fun (x15 : Int) =>
 ld (.sl) (at0 b3) fun (x16 : Sl) =>
 drew <|
 ld (.sl) (at0 b3) fun (x17 : Sl) =>
 slc s13.1.a 0 (if ((s13.1.len : Nat) : Int) < (IntKind.wrap .i64 (x15 - ((x16.len : Nat) : Int))) then ((s13.1.len : Nat) : Int) else (IntKind.wrap .i64 (x15 - ((x16.len : Nat) : Int)))) ((s13.1.cap : Nat) : Int) s13.1.cap 1 fun x18 =>
 rawT Tryz.prog (.one (.one .sl)) (Builtin.append_ #[30, 30] 30 #[(.slice x17.a x17.len x17.cap), (.slice x18.a x18.len x18.cap)]) fun (x19 : Sl) =>
 stC (at0 b3) (.slice x19.a x19.len x19.cap) <|
 slc s13.1.a (if ((s13.1.len : Nat) : Int) < (IntKind.wrap .i64 (x15 - ((x16.len : Nat) : Int))) then ((s13.1.len : Nat) : Int) else (IntKind.wrap .i64 (x15 - ((x16.len : Nat) : Int)))) ((s13.1.len : Nat) : Int) ((s13.1.cap : Nat) : Int) s13.1.cap 1 fun x20 =>
 ld (.sl) (at0 b3) fun (x21 : Sl) =>
 ld (.int .i64) v0 fun (x22 : Int) =>
 sif (((x21.len : Nat) : Int) == x22) (
 ld (.any) (at0 b1) fun (x23 : Value) =>
 ld (.sl) (at0 b3) fun (x24 : Sl) =>
 callX Tryz.prog (do let d ← Deferred.ofValue x23 #[(.slice x24.a x24.len x24.cap)]; invoke d.target d.args : Sem Next) (.one (.one .bool)) fun (x25 : Bool) =>
 sif (!x25) (
 endR l6 rc7 (some .ret) R8) (
 stC (at0 b3) (.slice none 0 0) <|
 again14 (x20, ()))) (
 again14 (x20, ()))) (
 endR l6 rc7 none R8)) (x12, ())) fun D10 => aft (
 ld (.sl) (at0 b3) fun (x31 : Sl) =>
 sif (decide (((x31.len : Nat) : Int) > (0 : Int))) (
 ld (.any) (at0 b1) fun (x32 : Value) =>
 ld (.sl) (at0 b3) fun (x33 : Sl) =>
 callX Tryz.prog (do let d ← Deferred.ofValue x32 #[(.slice x33.a x33.len x33.cap)]; invoke d.target d.args : Sem Next) (.one (.one .bool)) fun (x34 : Bool) =>
 endM D10 <|
 K ()) (
 endM D10 <|
 K ())) (fun i26 =>
 onE i26 0 (
 ld (.sl) (at0 b3) fun (x27 : Sl) =>
 sif (decide (((x27.len : Nat) : Int) > (0 : Int))) (
 ld (.any) (at0 b1) fun (x28 : Value) =>
 ld (.sl) (at0 b3) fun (x29 : Sl) =>
 callX Tryz.prog (do let d ← Deferred.ofValue x28 #[(.slice x29.a x29.len x29.cap)]; invoke d.target d.args : Sem Next) (.one (.one .bool)) fun (x30 : Bool) =>
 endM D10 <|
 K ()) (
 endM D10 <|
 K ())) (
 fun _ => False)) (
 endM D10 <|
 K ()))
noncomputable def h200 : Hint := (.seq none (.region [] (.ops 1 .done)) (.seq none (.seq none (.region [] (.ops 2 .done)) (.cond none .leaf .leaf)) (.seq none (.region [] (.ops 1 .done)) (.seq none (.seq none (.region [] (.ops 2 .done)) (.block (.range [(12, (.agg c146))] (.region [] (.ops 2 .done)) (.block (.seq none (.region [] (.ops 3 .done)) (.block (.loop 2199023222976 [(6, (.one .sl))] (.seq none (.seq none (.region [] (.ops 3 .done)) (.cond none .leaf .leaf)) (.block (.seq none (.region [] (.ops 8 .done)) (.seq none (.region [0, 1, 2, 3, 4, 5] (.ops 6 .done)) (.seq none (.region [] (.ops 4 .done)) (.seq none (.region [] (.ops 4 .done)) (.cond none (.seq none (.seq none (.region [] (.ops 4 .done)) (.cond none .leaf .leaf)) (.region [] (.ops 1 .done))) .leaf)))))))))))))) (.seq none (.region [] (.ops 3 .done)) (.cond none (.region [] (.ops 3 .done)) .leaf))))))
theorem F200_tie (a0 : Value) (v0 : Addr) (v1 : Addr) (K : Unit → World → Prop) : vcgF tab Tryz.prog Tryz.f200 h200 [a0, (.pointer (some v0)), (.pointer (some v1))] (.tup []) K = F200 a0 v0 v1 K := by kernel_rfl
theorem F200_calls {a0 : Value} {v0 : Addr} {v1 : Addr} {K : Unit → World → Prop} {w : World} (h : F200 a0 v0 v1 K w) : callT Tryz.prog 200 #[a0, (.pointer (some v0)), (.pointer (some v1))] (.tup []) K w :=
  vcgF_sound tabOk Tryz.func200 h200 [a0, (.pointer (some v0)), (.pointer (some v1))] (.tup []) K w (Eq.mpr (congrFun (F200_tie a0 v0 v1 K) w) h)
noncomputable def F257 (a0 : (Sl × Int × Int × Int × Int × Bool × Bool × Unit)) (K : (Int × Int × Int × Bool × Bool × Unit) → World → Prop) : World → Prop :=
 newO (.cells #[(.slice a0.1.a a0.1.len a0.1.cap), (.int .i64 a0.2.1), (.int .i64 a0.2.2.1), (.int .i64 a0.2.2.2.1), (.int .i64 a0.2.2.2.2.1), (.bool a0.2.2.2.2.2.1), (.bool a0.2.2.2.2.2.2.1)] 146) fun b1 =>
 newO (.cells #[(.int .i64 (0 : Int)), (.int .i64 (0 : Int)), (.int .i64 (0 : Int)), (.bool false), (.bool false)] 144) fun b2 =>
 lds c144 (⟨b1, 2, none⟩ : Addr) fun (x3 : (Int × Int × Int × Bool × Bool × Unit)) =>
 aggSt (at0 b2) (.agg (Cells.vals c144 x3).toArray) 5 <|
 lds c144 (at0 b2) fun (x4 : (Int × Int × Int × Bool × Bool × Unit)) =>
 K x4
noncomputable def h257 : Hint := (.seq none (.region [] (.ops 2 .done)) (.seq none (.region [] (.ops 3 .done)) .leaf))
theorem F257_tie (a0 : (Sl × Int × Int × Int × Int × Bool × Bool × Unit)) (K : (Int × Int × Int × Bool × Bool × Unit) → World → Prop) : vcgF tab Tryz.prog Tryz.f257 h257 [(.agg (Cells.vals c146 a0).toArray)] (.one (.agg c144)) K = F257 a0 K := by kernel_rfl
theorem F257_calls {a0 : (Sl × Int × Int × Int × Int × Bool × Bool × Unit)} {K : (Int × Int × Int × Bool × Bool × Unit) → World → Prop} {w : World} (h : F257 a0 K w) : callT Tryz.prog 257 #[(.agg (Cells.vals c146 a0).toArray)] (.one (.agg c144)) K w :=
  vcgF_sound tabOk Tryz.func257 h257 [(.agg (Cells.vals c146 a0).toArray)] (.one (.agg c144)) K w (Eq.mpr (congrFun (F257_tie a0 K) w) h)
noncomputable def F275 (a0 : (Int × Unit)) (a1 : Sl) (K : (Int × Int × Unit) → World → Prop) : World → Prop :=
 newO (.cells #[(.int .i64 a0.1)] 263) fun b1 =>
 sif (((a1.len : Nat) : Int) == (1 : Int)) (
 ix a1.a a1.len (0 : Int) fun p2 =>
 ld (.int .u8) (p2.add (scaled (Int.toNat (0 : Int)) 1)) fun (x3 : Int) =>
 K ((IntKind.wrap .i64 ((-1 : Int) - (IntKind.wrap .i64 x3))), (1 : Int), ())) (
 lds c263 (at0 b1) fun (x4 : (Int × Unit)) =>
 callT Tryz.prog 280 #[(.agg (Cells.vals c263 x4).toArray), (.slice a1.a a1.len a1.cap)] (.one (.one (.int .i64))) fun (x5 : Int) =>
 join (S := Unit) (fun J6 =>
 join (S := Bool × Unit) (fun J8 =>
 callT Tryz.prog 281 #[(.int .i64 x5)] (.one (.one .bool)) fun (x10 : Bool) =>
 sif x10 (
 J8 ((decide (((a1.len : Nat) : Int) ≥ (4 : Int))), ())) (
 J8 (false, ()))) fun (s9 : Bool × Unit) =>
 sif s9.1 (
 drew <|
 lds c263 (at0 b1) fun (x11 : (Int × Unit)) =>
 slc a1.a (2 : Int) ((a1.len : Nat) : Int) ((a1.cap : Nat) : Int) a1.cap 1 fun x12 =>
 callT Tryz.prog 280 #[(.agg (Cells.vals c263 x11).toArray), (.slice x12.a x12.len x12.cap)] (.one (.one (.int .i64))) fun (x13 : Int) =>
 callT Tryz.prog 282 #[(.int .i64 x13)] (.one (.one .bool)) fun (x14 : Bool) =>
 sif x14 (
 chk (0 ≤ (10 : Int)) <|
 K ((IntKind.wrap .i64 ((IntKind.wrap .i64 ((65536 : Int) + (IntKind.wrap .i64 ((IntKind.wrap .i64 ((BitVec.toNat (BitVec.ofInt (IntKind.bits .i64) x5 &&& BitVec.ofInt (IntKind.bits .i64) (1023 : Int)) : Nat) : Int)) * 2 ^ (min (Int.toNat (10 : Int)) (IntKind.bits .i64)))))) + (IntKind.wrap .i64 ((BitVec.toNat (BitVec.ofInt (IntKind.bits .i64) x13 &&& BitVec.ofInt (IntKind.bits .i64) (1023 : Int)) : Nat) : Int)))), (4 : Int), ())) (
 J6 ())) (
 J6 ())) fun (s7 : Unit) =>
 K (x5, (2 : Int), ()))
noncomputable def h275 : Hint := (.seq none (.region [] (.ops 3 .done)) (.seq none (.seq none (.region [] (.ops 3 .done)) (.cond none (.seq none (.region [] (.ops 7 .done)) .leaf) .leaf)) (.seq none (.region [] (.ops 4 .done)) (.seq (some (549755289776, [])) (.seq (some (66584576, [(25, (.one .bool))])) (.region [] (.ops 3 (.split 21 (.ops 4 .done) (.skips 3 (.ops 1 .done))))) (.cond none (.seq none (.region [0, 1, 2, 3, 4] (.ops 5 .done)) (.seq none (.region [] (.ops 2 .done)) (.cond none (.seq none (.region [] (.ops 9 .done)) .leaf) .leaf))) .leaf)) (.seq none (.region [] (.ops 3 .done)) .leaf)))))
theorem F275_tie (a0 : (Int × Unit)) (a1 : Sl) (K : (Int × Int × Unit) → World → Prop) : vcgF tab Tryz.prog Tryz.f275 h275 [(.agg (Cells.vals c263 a0).toArray), (.slice a1.a a1.len a1.cap)] (.tup [(.one (.int .i64)), (.one (.int .i64))]) K = F275 a0 a1 K := by kernel_rfl
theorem F275_calls {a0 : (Int × Unit)} {a1 : Sl} {K : (Int × Int × Unit) → World → Prop} {w : World} (h : F275 a0 a1 K w) : callT Tryz.prog 275 #[(.agg (Cells.vals c263 a0).toArray), (.slice a1.a a1.len a1.cap)] (.tup [(.one (.int .i64)), (.one (.int .i64))]) K w :=
  vcgF_sound tabOk Tryz.func275 h275 [(.agg (Cells.vals c263 a0).toArray), (.slice a1.a a1.len a1.cap)] (.tup [(.one (.int .i64)), (.one (.int .i64))]) K w (Eq.mpr (congrFun (F275_tie a0 a1 K) w) h)
noncomputable def F280 (a0 : (Int × Unit)) (a1 : Sl) (K : Int → World → Prop) : World → Prop :=
 newO (.cells #[(.int .i64 a0.1)] 263) fun b1 =>
 drew <|
 ld (.int .i64) (at0 b1) fun (x2 : Int) =>
 ix a1.a a1.len x2 fun p3 =>
 ld (.int .u8) (p3.add (scaled (Int.toNat x2) 1)) fun (x4 : Int) =>
 ld (.int .i64) (at0 b1) fun (x5 : Int) =>
 ix a1.a a1.len (IntKind.wrap .i64 ((1 : Int) - x5)) fun p6 =>
 ld (.int .u8) (p6.add (scaled (Int.toNat (IntKind.wrap .i64 ((1 : Int) - x5))) 1)) fun (x7 : Int) =>
 chk (0 ≤ (8 : Int)) <|
 K (IntKind.wrap .i64 ((BitVec.toNat (BitVec.ofInt (IntKind.bits .i64) (IntKind.wrap .i64 x4) ||| BitVec.ofInt (IntKind.bits .i64) (IntKind.wrap .i64 ((IntKind.wrap .i64 x7) * 2 ^ (min (Int.toNat (8 : Int)) (IntKind.bits .i64))))) : Nat) : Int))
noncomputable def h280 : Hint := (.seq none (.region [] (.ops 2 .done)) (.seq none (.region [0, 1, 2, 3, 4, 5, 6, 7, 8, 9, 10, 11, 12, 13, 14, 15] (.ops 16 .done)) .leaf))
theorem F280_tie (a0 : (Int × Unit)) (a1 : Sl) (K : Int → World → Prop) : vcgF tab Tryz.prog Tryz.f280 h280 [(.agg (Cells.vals c263 a0).toArray), (.slice a1.a a1.len a1.cap)] (.one (.one (.int .i64))) K = F280 a0 a1 K := by kernel_rfl
theorem F280_calls {a0 : (Int × Unit)} {a1 : Sl} {K : Int → World → Prop} {w : World} (h : F280 a0 a1 K w) : callT Tryz.prog 280 #[(.agg (Cells.vals c263 a0).toArray), (.slice a1.a a1.len a1.cap)] (.one (.one (.int .i64))) K w :=
  vcgF_sound tabOk Tryz.func280 h280 [(.agg (Cells.vals c263 a0).toArray), (.slice a1.a a1.len a1.cap)] (.one (.one (.int .i64))) K w (Eq.mpr (congrFun (F280_tie a0 a1 K) w) h)
noncomputable def F281 (a0 : Int) (K : Bool → World → Prop) : World → Prop :=
 K ((IntKind.wrap .i64 ((BitVec.toNat (BitVec.ofInt (IntKind.bits .i64) a0 &&& ~~~(BitVec.ofInt (IntKind.bits .i64) (1023 : Int))) : Nat) : Int)) == (55296 : Int))
noncomputable def h281 : Hint := (.seq none (.region [] (.ops 1 .done)) (.seq none (.region [] (.ops 4 .done)) .leaf))
theorem F281_tie (a0 : Int) (K : Bool → World → Prop) : vcgF tab Tryz.prog Tryz.f281 h281 [(.int .i64 a0)] (.one (.one .bool)) K = F281 a0 K := by kernel_rfl
theorem F281_calls {a0 : Int} {K : Bool → World → Prop} {w : World} (h : F281 a0 K w) : callT Tryz.prog 281 #[(.int .i64 a0)] (.one (.one .bool)) K w :=
  vcgF_sound tabOk Tryz.func281 h281 [(.int .i64 a0)] (.one (.one .bool)) K w (Eq.mpr (congrFun (F281_tie a0 K) w) h)
noncomputable def F282 (a0 : Int) (K : Bool → World → Prop) : World → Prop :=
 K ((IntKind.wrap .i64 ((BitVec.toNat (BitVec.ofInt (IntKind.bits .i64) a0 &&& ~~~(BitVec.ofInt (IntKind.bits .i64) (1023 : Int))) : Nat) : Int)) == (56320 : Int))
noncomputable def h282 : Hint := (.seq none (.region [] (.ops 1 .done)) (.seq none (.region [] (.ops 4 .done)) .leaf))
theorem F282_tie (a0 : Int) (K : Bool → World → Prop) : vcgF tab Tryz.prog Tryz.f282 h282 [(.int .i64 a0)] (.one (.one .bool)) K = F282 a0 K := by kernel_rfl
theorem F282_calls {a0 : Int} {K : Bool → World → Prop} {w : World} (h : F282 a0 K w) : callT Tryz.prog 282 #[(.int .i64 a0)] (.one (.one .bool)) K w :=
  vcgF_sound tabOk Tryz.func282 h282 [(.int .i64 a0)] (.one (.one .bool)) K w (Eq.mpr (congrFun (F282_tie a0 K) w) h)
noncomputable def F284 (a0 : (Unit)) (a1 : Sl) (K : (Int × Int × Unit) → World → Prop) : World → Prop :=
 newO (.cells #[] 264) fun b1 =>
 ix a1.a a1.len (0 : Int) fun p2 =>
 ld (.int .u8) (p2.add (scaled (Int.toNat (0 : Int)) 1)) fun (x3 : Int) =>
 K ((IntKind.wrap .i64 x3), (1 : Int), ())
noncomputable def h284 : Hint := (.seq none (.region [] (.ops 3 .done)) (.seq none (.region [] (.ops 6 .done)) .leaf))
theorem F284_tie (a0 : (Unit)) (a1 : Sl) (K : (Int × Int × Unit) → World → Prop) : vcgF tab Tryz.prog Tryz.f284 h284 [(.agg (Cells.vals c264 a0).toArray), (.slice a1.a a1.len a1.cap)] (.tup [(.one (.int .i64)), (.one (.int .i64))]) K = F284 a0 a1 K := by kernel_rfl
theorem F284_calls {a0 : (Unit)} {a1 : Sl} {K : (Int × Int × Unit) → World → Prop} {w : World} (h : F284 a0 a1 K w) : callT Tryz.prog 284 #[(.agg (Cells.vals c264 a0).toArray), (.slice a1.a a1.len a1.cap)] (.tup [(.one (.int .i64)), (.one (.int .i64))]) K w :=
  vcgF_sound tabOk Tryz.func284 h284 [(.agg (Cells.vals c264 a0).toArray), (.slice a1.a a1.len a1.cap)] (.tup [(.one (.int .i64)), (.one (.int .i64))]) K w (Eq.mpr (congrFun (F284_tie a0 a1 K) w) h)
end Go.Proofs.YtmooldhpiopcgaaGreatDoor
set_option linter.unusedSimpArgs false
set_option linter.unusedVariables false
set_option maxRecDepth 100000
namespace Go.Proofs.YtmooldhpiopcgaaGreatDoor
open Go Go.Vx Cdc
section
variable {w w' : World}
theorem func_x {g : FuncId} {caps args : Array Value} {t : RTy} {K : t.T → World → Prop} (hf : ((Tryz.prog.funcs[g]?).map fun fn => (fn.body.isNone, fn.name == "runtime.NumGoroutine")) = some (false, false)) (h : callT Tryz.prog g (args ++ caps) t K w) :
    callX Tryz.prog (do let d ← Deferred.ofValue (.func (.func g) #[] caps) args; invoke d.target d.args : Sem Next) t K w := by
  refine .inl ⟨g, args ++ caps, ?_, h⟩
  have := run_callFunc (P := Tryz.prog) (f := g) (args := args ++ caps) hf w
  simp only [Deferred.ofValue, pure_bind, invoke]
  have e : (#[] ++ args ++ caps : Array Value) = args ++ caps := by simp
  first
    | exact this
    | (rw [e]; exact this)
theorem meth_x {ty : TypeId} {v v' : Value} {name : String} {f : FuncId} {a : Value} {t : RTy} {K : t.T → World → Prop} (hm : ∀ w, (Go.method (Tryz.prog.types.size + Made.depth) ty v name).run Tryz.prog w = .ok (f, v') w)
    (hf : ((Tryz.prog.funcs[f]?).map fun fn => (fn.body.isNone, fn.name == "runtime.NumGoroutine")) = some (false, false)) (h : callT Tryz.prog f #[v', a] t K w) :
    callX Tryz.prog (invoke (.fn (.method name) #[]) (#[.iface ty v] ++ #[a])) t K w := by
  refine .inl ⟨f, #[v', a], ?_, h⟩
  have h := run_callFunc (P := Tryz.prog) (f := f) (args := #[v', a]) hf w
  have e : invoke (.fn (.method name) #[]) (#[.iface ty v] ++ #[a]) = callMethod (.iface ty v) name #[a] := rfl
  rw [e]
  simp only [callMethod, Sem.run_bind, program, Sem.run, Result.andThen_ok, hm]
  exact h
abbrev By (w : World) (s : Sl) (l : Bs) : Prop := SlIn w s 5 1 (bv l)
theorem By.len {s : Sl} {l : Bs} (h : By w s l) : l.length = s.len := by have := h.len1; rwa [List.length_map] at this
theorem bv_map (l : Bs) : bv l = (l.map fun b => (b.toNat : Int)).map (Cell.int .u8).val := by
  rw [List.map_map]; rfl
theorem ix_by {s : Sl} {l : Bs} {n : Int} {K : Addr → Int → World → Prop} (h : By w s l) (h0 : 0 ≤ n) {b : UInt8} (hb : l[n.toNat]? = some b) (hK : ∀ p, K p (b.toNat : Int) w) :
    ix s.a s.len n (fun p => ld (.int .u8) (p.add (scaled (Int.toNat n) 1)) (K p)) w := by
  have h' : SlIn w s 5 1 ((l.map fun b => (b.toNat : Int)).map (Cell.int .u8).val) := by rw [← bv_map]; exact h
  exact ix_ld h' h0 (x := (b.toNat : Int)) (by rw [List.getElem?_map, hb]; rfl) hK
theorem bv_drop (l : Bs) (n : Nat) : (bv l).drop n = bv (l.drop n) := by simp [bv]
theorem bv_take (l : Bs) (n : Nat) : (bv l).take n = bv (l.take n) := by simp [bv]
theorem slc_by {s : Sl} {l : Bs} {a b m : Int} {K : Sl → World → Prop} (hs : By w s l) (h0 : 0 ≤ a) (h1 : a ≤ b) (h2 : b ≤ s.len) (h3 : b ≤ m) (h4 : m ≤ s.cap)
    (hK : ∀ s', By w s' ((l.drop a.toNat).take (b.toNat - a.toNat)) → s'.len = b.toNat - a.toNat → (∀ k, s'.blk k → s.blk k) → K s' w) : slc s.a a b m s.cap 1 K w :=
  slc_r hs h0 h1 h2 h3 h4 fun s' hs' hl _ hb => hK s' (by
    rw [Nat.mul_one, Nat.mul_one, bv_drop, bv_take] at hs'; exact hs') hl hb
theorem bounds_call {c : UInt8} {K : Int × Int × Int × Unit → World → Prop} (hK : K (((bnds c.toNat).1 : Nat), ((bnds c.toNat).2.1 : Nat), ((bnds c.toNat).2.2 : Nat), ()) w) :
    callT Tryz.prog 165 #[.int .u8 (c.toNat : Int)] (.tup [(.one (.int .i64)), (.one (.int .u8)), (.one (.int .u8))]) K w := by
  refine F165_calls ?_
  unfold F165
  have hlt := c.toNat_lt
  unfold bnds at hK
  repeat' refine sif_r (fun h => ?_) (fun h => ?_)
  all_goals simp only [decide_eq_true_eq, decide_eq_false_iff_not, beq_iff_eq, beq_eq_false_iff_ne] at *
  all_goals
    repeat rw [if_pos (by omega)] at hK
    repeat rw [if_neg (by omega)] at hK
    repeat rw [if_pos (by omega)] at hK
    exact hK
theorem more_step {c : UInt8} : ∀ {m : Nat} {r : Bs} {j : Nat}, j ≤ more m r → (j < m ∧ r[j]? = some c ∧ cont c = true → j < more m r)
  | 0, r, j, _ => fun h => absurd h.1 (by omega)
  | m + 1, [], j, _ => fun h => by simp at h
  | m + 1, b :: r, 0, _ => fun h => by
    simp at h
    simp [more, h]
  | m + 1, b :: r, j + 1, hj => fun h => by
    simp only [more] at hj ⊢
    split at hj
    · rename_i hb
      rw [if_pos hb]
      have := more_step (c := c) (m := m) (r := r) (j := j) (by omega) ⟨by omega, by simpa using h.2.1, h.2.2⟩
      omega
    · omega
theorem more_cont : ∀ {m : Nat} {r : Bs} {j : Nat}, j < more m r → ∃ c, r[j]? = some c ∧ cont c = true
  | 0, r, j, h => by cases r <;> simp [more] at h
  | m + 1, [], j, h => by simp [more] at h
  | m + 1, b :: r, 0, h => by
    simp only [more] at h
    split at h
    · rename_i hb; exact ⟨b, rfl, hb⟩
    · omega
  | m + 1, b :: r, j + 1, h => by
    simp only [more] at h
    split at h
    · obtain ⟨c, hc⟩ := more_cont (m := m) (r := r) (j := j) (by omega)
      exact ⟨c, by simpa using hc⟩
    · omega
theorem cont_bits : ∀ c : UInt8, ((IntKind.wrap .u8 ((BitVec.toNat (BitVec.ofInt (IntKind.bits .u8) (c.toNat : Int) &&& BitVec.ofInt (IntKind.bits .u8) (192 : Int)) : Nat) : Int)) == (128 : Int)) = cont c := by
  intro c
  have h : ∀ n : Fin 256, ((IntKind.wrap .u8 ((BitVec.toNat (BitVec.ofInt (IntKind.bits .u8) (n.val : Int) &&& BitVec.ofInt (IntKind.bits .u8) (192 : Int)) : Nat) : Int)) == (128 : Int)) = (n.val / 64 == 2) := by decide +kernel
  exact h ⟨c.toNat, c.toNat_lt⟩
theorem row_call {s : Sl} {b : UInt8} {r : Bs} (hB : By w s (b :: r)) {K : Int × Int × Unit → World → Prop} (hK : K (((rowOf (b :: r)).1 : Nat), ((rowOf (b :: r)).2 : Nat), ()) w) :
    callT Tryz.prog 135 #[.slice s.a s.len s.cap] (.tup [(.one (.int .i64)), (.one (.int .i64))]) K w := by
  refine F135_calls ?_
  unfold F135
  have hlen : r.length + 1 = s.len := hB.len
  refine ix_by hB (by decide) (b := b) rfl fun p => bounds_call ?_
  have h4 := bnds_le b.toNat
  have hbr := rowOf_bnds b r
  refine sif_r (fun h => ?_) (fun h => ?_)
  · simp only [decide_eq_true_eq] at h
    have h2 : (bnds b.toNat).1 < 2 := by omega
    simp only [rowOf, if_pos h2] at hK
    exact hK
  simp only [decide_eq_false_iff_not] at h
  have h2 : ¬ (bnds b.toNat).1 < 2 := by omega
  cases r with
  | nil =>
    simp only [rowOf, if_neg h2] at hK
    have : s.len = 1 := by simpa using hlen.symm
    refine join_r (fun x w' => x = (true, ()) ∧ w = w') (sif_r (fun _ => ⟨rfl, rfl⟩) (fun h => ?_)) ?_
    · simp only [decide_eq_false_iff_not] at h; omega
    · rintro _ w' ⟨rfl, rfl⟩
      exact sif_true hK
  | cons c r =>
    have hl2 : r.length + 2 = s.len := by simpa using hlen
    refine join_r (fun x w' => x = (decide (c.toNat < (bnds b.toNat).2.1 ∨ (bnds b.toNat).2.2 < c.toNat), ()) ∧ w = w') (sif_r (fun h => ?_) (fun _ => ?_)) ?_
    · simp only [decide_eq_true_eq] at h; omega
    · refine ix_by hB (by decide) (b := c) rfl fun p => sif_r (fun h => ?_) (fun h => ix_by hB (by decide) (b := c) rfl fun p => ?_)
      · simp only [decide_eq_true_eq] at h
        exact ⟨by rw [decide_eq_true (by omega)], rfl⟩
      · simp only [decide_eq_false_iff_not] at h
        refine ⟨tupb ?_, rfl⟩
        simp only [decide_eq_true_eq]
        omega
    · rintro _ w' ⟨rfl, rfl⟩
      refine sif_r (fun h => ?_) (fun h => ?_)
      · simp only [decide_eq_true_eq] at h
        simp only [rowOf, if_neg h2, if_pos h] at hK
        exact hK
      · simp only [decide_eq_false_iff_not] at h
        simp only [rowOf, if_neg h2, if_neg h] at hK
        generalize hm : (bnds b.toNat).1 - 2 = m at hK
        have hn : (bnds b.toNat).1 = m + 2 := by omega
        rw [hn] at hK ⊢
        refine join_r (fun x w' => x = (((2 + more m r : Nat) : Int), ()) ∧ w = w') ?_ ?_
        · refine sloop_r (fun x w' => (∃ j : Nat, x = (((2 + j : Nat) : Int), ()) ∧ j ≤ more m r) ∧ w = w') (fun x _ => (m + 2 - x.1.toNat)) ⟨⟨0, rfl, Nat.zero_le _⟩, rfl⟩ ?_
          rintro _ w' ⟨⟨j, rfl, hj⟩, rfl⟩
          have hmo := more_le m r
          refine join_r (fun x w' => x = (decide (j < more m r), ()) ∧ w = w') ?_ ?_
          · refine sif_r (fun h => ?_) (fun h => ?_)
            · simp only [decide_eq_true_eq] at h
              refine sif_r (fun h' => ?_) (fun h' => ?_)
              · simp only [decide_eq_true_eq] at h'
                have hjl : j < r.length := by omega
                have hx : (b :: c :: r)[((2 + j : Nat) : Int).toNat]? = some r[j] := by
                  have : ((2 + j : Nat) : Int).toNat = j + 2 := by omega
                  rw [this]; simp [hjl]
                refine ix_by hB (by omega) hx fun p => ⟨?_, rfl⟩
                rw [cont_bits]
                refine tupb ?_
                simp only [decide_eq_true_eq]
                refine ⟨fun hc => more_step (c := r[j]) hj ⟨by omega, by simp [hjl], hc⟩, fun hc => ?_⟩
                obtain ⟨c', h1, h2⟩ := more_cont hc
                rw [List.getElem?_eq_getElem hjl] at h1
                cases h1; exact h2
              · simp only [decide_eq_false_iff_not] at h'
                exact ⟨by rw [decide_eq_false (by omega)], rfl⟩
            · simp only [decide_eq_false_iff_not] at h
              exact ⟨by rw [decide_eq_false (by omega)], rfl⟩
          · rintro _ w' ⟨rfl, rfl⟩
            refine sif_r (fun h => ?_) (fun h => ?_)
            · simp only [decide_eq_true_eq] at h
              have e : IntKind.wrap .i64 (((2 + j : Nat) : Int) + 1) = ((2 + (j + 1) : Nat) : Int) := by rw [wrap64 (by omega) (by omega)]; omega
              rw [e]
              exact ⟨⟨⟨j + 1, rfl, h⟩, rfl⟩, by simp only; omega⟩
            · simp only [decide_eq_false_iff_not] at h
              have : j = more m r := by omega
              exact ⟨by rw [this], rfl⟩
        · rintro _ w' ⟨rfl, rfl⟩
          exact hK
theorem rest_snoc (a : Nat) (l : Bs) (c : UInt8) : rest a (l ++ [c]) = rest a l * 64 + c.toNat % 64 := by simp [rest]
theorem rest_lt : ∀ (l : Bs) (a : Nat), rest a l < (a + 1) * 64 ^ l.length
  | [], a => by simp [rest]
  | c :: l, a => by
    have := rest_lt l (a * 64 + c.toNat % 64)
    have e : rest a (c :: l) = rest (a * 64 + c.toNat % 64) l := rfl
    rw [e, List.length_cons, Nat.pow_succ]
    refine Nat.lt_of_lt_of_le this ?_
    have h : a * 64 + c.toNat % 64 + 1 ≤ (a + 1) * 64 := by omega
    calc (a * 64 + c.toNat % 64 + 1) * 64 ^ l.length ≤ (a + 1) * 64 * 64 ^ l.length := Nat.mul_le_mul_right _ h
      _ = (a + 1) * (64 ^ l.length * 64) := by rw [Nat.mul_assoc, Nat.mul_comm 64]
theorem lead_bits (c : UInt8) (k : Nat) (hk : k ≤ 8) : IntKind.wrap .i64 ((BitVec.toNat (BitVec.ofInt (IntKind.bits .i64) (IntKind.wrap .i64 (c.toNat : Int)) &&& BitVec.ofInt (IntKind.bits .i64) (2 ^ k - 1)) : Nat) : Int) = ((c.toNat % 2 ^ k : Nat) : Int) := by
  have hc := c.toNat_lt
  rw [wrap64 (a := (c.toNat : Int)) (by omega) (by omega)]
  have h := and_lo (b := IntKind.bits .i64) (k := k) (a := (c.toNat : Int)) (m := 2 ^ k - 1) (by omega) (by show (c.toNat : Int) < 2 ^ 64; omega) rfl (by show k ≤ 64; omega)
  rw [h, Int.natCast_emod]
  have e : ((2 ^ k : Nat) : Int) = (2 : Int) ^ k := by simp
  rw [e]
  have h0 : (0 : Int) < 2 ^ k := Int.pow_pos (by decide)
  have h1 : (c.toNat : Int) % 2 ^ k ≤ (c.toNat : Int) := by
    rw [← e, ← Int.natCast_emod]
    exact_mod_cast Nat.mod_le _ _
  have h2 := Int.emod_nonneg (c.toNat : Int) (Int.ne_of_gt h0)
  exact wrap64 (by omega) (by omega)
theorem lead5 (c : UInt8) : IntKind.wrap .i64 ((BitVec.toNat (BitVec.ofInt (IntKind.bits .i64) (IntKind.wrap .i64 (c.toNat : Int)) &&& BitVec.ofInt (IntKind.bits .i64) (31 : Int)) : Nat) : Int) = ((c.toNat % 32 : Nat) : Int) := lead_bits c 5 (by decide)
theorem lead4 (c : UInt8) : IntKind.wrap .i64 ((BitVec.toNat (BitVec.ofInt (IntKind.bits .i64) (IntKind.wrap .i64 (c.toNat : Int)) &&& BitVec.ofInt (IntKind.bits .i64) (15 : Int)) : Nat) : Int) = ((c.toNat % 16 : Nat) : Int) := lead_bits c 4 (by decide)
theorem lead3 (c : UInt8) : IntKind.wrap .i64 ((BitVec.toNat (BitVec.ofInt (IntKind.bits .i64) (IntKind.wrap .i64 (c.toNat : Int)) &&& BitVec.ofInt (IntKind.bits .i64) (7 : Int)) : Nat) : Int) = ((c.toNat % 8 : Nat) : Int) := lead_bits c 3 (by decide)
theorem go_bits (a : Nat) (c : UInt8) (ha : a < 2 ^ 40) : IntKind.wrap .i64 ((BitVec.toNat (BitVec.ofInt (IntKind.bits .i64) (IntKind.wrap .i64 ((a : Int) * 2 ^ (min (Int.toNat (6 : Int)) (IntKind.bits .i64)))) ||| BitVec.ofInt (IntKind.bits .i64) (IntKind.wrap .i64 (IntKind.wrap .u8 ((BitVec.toNat (BitVec.ofInt (IntKind.bits .u8) (c.toNat : Int) &&& BitVec.ofInt (IntKind.bits .u8) (63 : Int)) : Nat) : Int)))) : Nat) : Int) = ((a * 64 + c.toNat % 64 : Nat) : Int) := by
  have hc := c.toNat_lt
  have h1 := and_lo (b := IntKind.bits .u8) (k := 6) (a := (c.toNat : Int)) (m := 63) (by omega) (by show (c.toNat : Int) < 2 ^ 8; omega) rfl (by decide)
  rw [h1, wrap8 (by omega) (by omega), wrap64 (a := (c.toNat : Int) % 2 ^ 6) (by omega) (by omega)]
  have e : ((2 : Int) ^ (min (Int.toNat (6 : Int)) (IntKind.bits .i64))) = 2 ^ 6 := rfl
  rw [e, wrap64 (a := (a : Int) * 2 ^ 6) (by omega) (by omega)]
  have h2 := or_shift (b := IntKind.bits .i64) (k := 6) (a := (a : Int)) (c := (c.toNat : Int) % 2 ^ 6) (by omega) (by omega) (by omega) (by show _ < (2 : Int) ^ 64; omega)
  rw [h2, wrap64 (by omega) (by omega)]
  omega
theorem first8_call {s : Sl} {b : UInt8} {r : Bs} (hB : By w s (b :: r)) {K : Int × Int × Unit → World → Prop} (hK : ∀ w', Ext w w' → K ((nx8 (b :: r)).1, ((nx8 (b :: r)).2 : Nat), ()) w') :
    callT Tryz.prog 95 #[.agg #[], .slice s.a s.len s.cap] (.tup [(.one (.int .i64)), (.one (.int .i64))]) K w := by
  refine F95_calls (a0 := ()) ?_
  unfold F95
  have hlen : r.length + 1 = s.len := hB.len
  have hb := b.toNat_lt
  refine newO_r fun _ w1 e1 _ _ _ => ?_
  have hB1 : By w1 s (b :: r) := hB.ext e1
  refine row_call hB1 ?_
  have hro := rowOf_le b r
  have hrb := rowOf_bnds b r
  have h4 := bnds_le b.toNat
  have hcap := hB.le
  replace hK := hK w1 e1
  simp only [nx8] at hK
  generalize hn : (rowOf (b :: r)).2 = n at *
  generalize hh : (rowOf (b :: r)).1 = h at *
  refine join_r (fun x w' => x = (decide (n = 0 ∨ h < n), ()) ∧ w1 = w') (sif_r (fun hc => ?_) (fun hc => ?_)) ?_
  · simp only [beq_iff_eq] at hc
    exact ⟨by rw [decide_eq_true (by omega)], rfl⟩
  · simp only [beq_eq_false_iff_ne] at hc
    refine ⟨tupb ?_, rfl⟩
    simp only [decide_eq_true_eq]; omega
  rintro _ w' ⟨rfl, rfl⟩
  refine sif_r (fun hc => ?_) (fun hc => ?_)
  · simp only [decide_eq_true_eq] at hc
    rw [if_pos hc] at hK
    refine ix_by hB1 (by decide) (b := b) rfl fun p => ?_
    rw [wrap64 (a := (b.toNat : Int)) (by omega) (by omega), wrap64 (by omega) (by omega)]
    exact hK
  simp only [decide_eq_false_iff_not] at hc
  rw [if_neg hc] at hK
  refine ix_by hB1 (by decide) (b := b) rfl fun p => ?_
  have hlt : lead n b.toNat < 256 := by unfold lead; (repeat' split) <;> omega
  refine join_r (fun x w' => x = (((lead n b.toNat : Nat) : Int), ()) ∧ w1 = w') ?_ ?_
  · unfold lead
    refine sif_r (fun hc => ?_) (fun hc => sif_r (fun hc => ?_) (fun hc => sif_r (fun hc => ?_) (fun hc => ?_)))
    all_goals simp only [beq_iff_eq, beq_eq_false_iff_ne] at *
    · rw [lead5, if_pos (by omega)]; exact ⟨rfl, trivial⟩
    · rw [lead4, if_neg (by omega), if_pos (by omega)]; exact ⟨rfl, trivial⟩
    · rw [lead3, if_neg (by omega), if_neg (by omega), if_pos (by omega)]; exact ⟨rfl, trivial⟩
    · rw [if_neg (by omega), if_neg (by omega), if_neg (by omega), wrap64 (by omega) (by omega)]; exact ⟨rfl, trivial⟩
  rintro _ w' ⟨rfl, rfl⟩
  simp only
  generalize hld : lead n b.toNat = ld at *
  refine join_r (fun x w' => x = (((rest ld (r.take (n - 1)) : Nat) : Int), ()) ∧ w1 = w') ?_ ?_
  · simp only [List.length_cons] at hro
    refine slc_by hB1 (by decide) (by omega) (by omega) (by omega) (by omega) fun s' hs' hl' _ => ?_
    have hR : ((b :: r).drop (Int.toNat 1)).take (((n : Nat) : Int).toNat - Int.toNat 1) = r.take (n - 1) := by
      have : ((n : Nat) : Int).toNat - Int.toNat 1 = n - 1 := by omega
      rw [this]; rfl
    rw [hR] at hs'
    generalize hRR : r.take (n - 1) = R at *
    have hRl : R.length = s'.len := hs'.len
    have hR3 : R.length ≤ 3 := by rw [← hRR, List.length_take]; omega
    refine sloop_r (fun x w' => (∃ i : Nat, x = (((rest ld (R.take i) : Nat) : Int), (i : Int), ()) ∧ i ≤ R.length) ∧ w1 = w') (fun x _ => R.length - x.2.1.toNat) ⟨⟨0, by simp [rest], Nat.zero_le _⟩, rfl⟩ ?_
    rintro _ w' ⟨⟨i, rfl, hi⟩, rfl⟩
    refine sif_r (fun hc => ?_) (fun hc => ?_)
    · simp only [decide_eq_true_eq] at hc
      have hiR : i < R.length := by omega
      refine ix_by hs' (by simp only; omega) (b := R[i]) (by simp [hiR]) fun p => chk_r (by decide) ?_
      have hlt2 := rest_lt (R.take i) ld
      have hb2 : rest ld (R.take i) < 2 ^ 40 := by
        refine Nat.lt_of_lt_of_le hlt2 ?_
        have h1 : 64 ^ (R.take i).length ≤ 64 ^ 3 := Nat.pow_le_pow_right (by decide) (by rw [List.length_take]; omega)
        calc (ld + 1) * 64 ^ (R.take i).length ≤ 256 * 64 ^ 3 := Nat.mul_le_mul (by omega) h1
          _ ≤ 2 ^ 40 := by decide
      dsimp only
      rw [go_bits _ _ hb2]
      have e : rest ld (R.take i) * 64 + R[i].toNat % 64 = rest ld (R.take (i + 1)) := by
        rw [← rest_snoc, List.take_append_getElem]
      rw [e, wrap64 (by omega) (by omega)]
      exact ⟨⟨⟨i + 1, rfl, hiR⟩, rfl⟩, by omega⟩
    · simp only [decide_eq_false_iff_not] at hc
      have : i = R.length := by omega
      subst this
      rw [List.take_length]
      exact ⟨rfl, rfl⟩
  rintro _ w' ⟨rfl, rfl⟩
  exact hK
end
end Go.Proofs.YtmooldhpiopcgaaGreatDoor
set_option linter.unusedSimpArgs false
set_option linter.unusedVariables false
set_option maxRecDepth 100000
namespace Go.Proofs.YtmooldhpiopcgaaGreatDoor
open Go Go.Vx Trx
section
variable {w w' : World}
def smT (s : Sums) : Cells.T c144 := ((s.atoms : Int), (s.bytes : Int), (s.breaks : Int), s.lf, s.cr, ())
def pcT (x : Pc) : Cells.T c146 := (x.bytes, x.tag, (x.sm.atoms : Int), (x.sm.bytes : Int), (x.sm.breaks : Int), x.sm.lf, x.sm.cr, ())
abbrev smV (s : Sums) : Value := .agg (Cells.vals c144 (smT s)).toArray
abbrev pcV (x : Pc) : Value := .agg (Cells.vals c146 (pcT x)).toArray
theorem meth_x0 {ty : TypeId} {v v' : Value} {name : String} {f : FuncId} {t : RTy} {K : t.T → World → Prop} (hm : ∀ w, (Go.method (Tryz.prog.types.size + Made.depth) ty v name).run Tryz.prog w = .ok (f, v') w)
    (hf : ((Tryz.prog.funcs[f]?).map fun fn => (fn.body.isNone, fn.name == "runtime.NumGoroutine")) = some (false, false)) (h : callT Tryz.prog f #[v'] t K w) :
    callX Tryz.prog (invoke (.fn (.method name) #[]) (#[.iface ty v] ++ #[])) t K w := by
  refine .inl ⟨f, #[v'], ?_, h⟩
  have h := run_callFunc (P := Tryz.prog) (f := f) (args := #[v']) hf w
  have e : invoke (.fn (.method name) #[]) (#[.iface ty v] ++ #[]) = callMethod (.iface ty v) name #[] := rfl
  rw [e]
  simp only [callMethod, Sem.run_bind, program, Sem.run, Result.andThen_ok, hm]
  exact h
theorem add_call {s o : Sums} (hs : s.Ok) (ho : o.Ok) (hb : s.bytes + o.bytes < 2 ^ 60) {K : Cells.T c144 → World → Prop} (hK : ∀ w', Ext w w' → K (smT (s.add o)) w') :
    callT Tryz.prog 127 #[smV s, smV o] (.one (.agg c144)) K w := by
  have h1 := hs.byt; have h2 := hs.brk; have h3 := ho.byt; have h4 := ho.brk
  refine F127_calls (a0 := smT s) (a1 := smT o) ?_
  unfold F127
  refine (St.start w).newO fun b1 w1 S1 e1 => S1.newO fun b2 w2 S2 e2 => S2.newO fun b3 w3 S3 e3 => ?_
  refine S3.ld 2 rfl (x := ((s.atoms : Nat) : Int)) rfl ?_
  refine sif_r (fun h => ?_) (fun h => ?_)
  · have h0 : s.atoms = 0 := by simp only [beq_iff_eq] at h; omega
    refine S3.lds 1 (smT o) rfl (S3.aggSt 0 rfl rfl rfl rfl fun w4 S4 u4 => S4.lds 0 (smT o) rfl ?_)
    have := hK w4 S4.upd
    rwa [show s.add o = o by unfold Sums.add; rw [if_pos h0]] at this
  have h0 : ¬ s.atoms = 0 := by simp only [beq_eq_false_iff_ne] at h; omega
  refine S3.ld 1 rfl (x := ((o.atoms : Nat) : Int)) rfl (sif_r (fun h => ?_) (fun h => ?_))
  · have h0' : o.atoms = 0 := by simp only [beq_iff_eq] at h; omega
    refine S3.lds 2 (smT s) rfl (S3.aggSt 0 rfl rfl rfl rfl fun w4 S4 u4 => S4.lds 0 (smT s) rfl ?_)
    have := hK w4 S4.upd
    rwa [show s.add o = s by unfold Sums.add; rw [if_neg h0, if_pos h0']] at this
  have h0' : ¬ o.atoms = 0 := by simp only [beq_eq_false_iff_ne] at h; omega
  refine S3.ld 2 rfl (x := ((s.atoms : Nat) : Int)) rfl (S3.ld 1 rfl (x := ((o.atoms : Nat) : Int)) rfl (S3.ld 2 rfl (x := ((s.bytes : Nat) : Int)) rfl (S3.ld 1 rfl (x := ((o.bytes : Nat) : Int)) rfl
    (S3.ld 2 rfl (x := ((s.breaks : Nat) : Int)) rfl (S3.ld 1 rfl (x := ((o.breaks : Nat) : Int)) rfl (S3.ld 2 rfl (x := s.lf) rfl (S3.ld 1 rfl (x := o.cr) rfl ?_)))))))
  rw [wrap64 (a := ((s.atoms : Nat) : Int) + ((o.atoms : Nat) : Int)) (by omega) (by omega), wrap64 (a := ((s.bytes : Nat) : Int) + ((o.bytes : Nat) : Int)) (by omega) (by omega), wrap64 (a := ((s.breaks : Nat) : Int) + ((o.breaks : Nat) : Int)) (by omega) (by omega)]
  refine S3.newAgg rfl rfl rfl fun b4 w4 S4 e4 => ?_
  refine join_r (fun _ w' => St (fun _ => False) w w' [(b4, .cells (Cells.vals c144 (smT (s.add o))).toArray 144 (0, 0)), (b3, .cells #[(.int .i64 0), (.int .i64 0), (.int .i64 0), (.bool false), (.bool false)] 144 (0, 0))]) ?_ ?_
  · refine join_r (fun x w' => x = (s.cr && o.lf, ()) ∧ w4 = w') (S4.ld 3 rfl (x := s.cr) rfl (sif_r (fun h => S4.ld 2 rfl (x := o.lf) rfl ⟨by rw [h]; rfl, rfl⟩) (fun h => ⟨by rw [h]; rfl, rfl⟩))) ?_
    rintro _ w' ⟨rfl, rfl⟩
    have lf := hs.cr; have lf' := ho.lf
    refine sif_r (fun h => ?_) (fun h => ?_)
    · have h' : (s.cr && o.lf) = true := h
      simp only [Bool.and_eq_true] at h'
      have := lf h'.1; have := lf' h'.2
      refine S4.ld 0 rfl (x := ((s.breaks : Nat) : Int) + ((o.breaks : Nat) : Int)) rfl ?_
      rw [wrap64 (by omega) (by omega)]
      refine S4.stC 0 rfl (by simp) fun w5 S5 u5 => ?_
      have e : s.add o = ⟨s.atoms + o.atoms, s.bytes + o.bytes, s.breaks + o.breaks - 1, s.lf, o.cr⟩ := by unfold Sums.add; rw [if_neg h0, if_neg h0', if_pos h]
      rw [e]
      have e2 : ((s.breaks : Nat) : Int) + ((o.breaks : Nat) : Int) - 1 = ((s.breaks + o.breaks - 1 : Nat) : Int) := by omega
      rw [e2] at S5
      exact ⟨S5.upd, S5.old, fun x hx => S5.loc x (by
        rcases List.mem_cons.1 hx with rfl | hx
        · exact List.mem_cons_self
        · rw [List.mem_singleton.1 hx]; exact List.mem_cons_of_mem _ List.mem_cons_self), by
        have := S5.nd
        simp at this ⊢
        exact this.1.1⟩
    · have e : s.add o = ⟨s.atoms + o.atoms, s.bytes + o.bytes, s.breaks + o.breaks, s.lf, o.cr⟩ := by
        have h' : ¬ (s.cr && o.lf) = true := fun hh => by
          have hf : (s.cr && o.lf) = false := h
          rw [hh] at hf; cases hf
        unfold Sums.add; rw [if_neg h0, if_neg h0', if_neg h']; rfl
      rw [e]
      exact ⟨S4.upd, S4.old, fun x hx => S4.loc x (by
        rcases List.mem_cons.1 hx with rfl | hx
        · exact List.mem_cons_self
        · rw [List.mem_singleton.1 hx]; exact List.mem_cons_of_mem _ List.mem_cons_self), by
        have := S4.nd
        simp at this ⊢
        exact this.1.1⟩
  · intro _ w5 S5
    exact S5.lds 0 (smT (s.add o)) rfl (S5.aggSt 1 rfl rfl rfl rfl fun w6 S6 u6 => S6.lds 1 (smT (s.add o)) rfl (hK w6 S6.upd))
theorem add_x {s o : Sums} (hs : s.Ok) (ho : o.Ok) (hb : s.bytes + o.bytes < 2 ^ 60) {K : Cells.T c144 → World → Prop} (hK : ∀ w', Ext w w' → K (smT (s.add o)) w') :
    callX Tryz.prog (invoke (.fn (.method "Add") #[]) (#[.iface 144 (smV s)] ++ #[smV o])) (.one (.agg c144)) K w :=
  meth_x (f := 127) (v' := smV s) (fun w => by kernel_rfl) (by kernel_rfl) (add_call hs ho hb hK)
theorem measure_x {x : Pc} {K : Cells.T c144 → World → Prop} (hK : ∀ w', Ext w w' → K (smT x.sm) w') :
    callX Tryz.prog (invoke (.fn (.method "Measure") #[]) (#[.iface 146 (pcV x)] ++ #[])) (.one (.agg c144)) K w := by
  refine meth_x0 (f := 257) (v' := pcV x) (fun w => by kernel_rfl) (by kernel_rfl) ?_
  refine F257_calls (a0 := pcT x) ?_
  unfold F257
  refine (St.start w).newO fun b1 w1 S1 e1 => S1.newO fun b2 w2 S2 e2 => ?_
  refine lds_r (S2.at_ 1 rfl) (x := smT x.sm) (fun i v hv => ?_) (S2.aggSt 0 rfl rfl rfl rfl fun w3 S3 u3 => S3.lds 0 (smT x.sm) rfl (hK w3 S3.upd))
  match i, hv with
  | 0, hv => exact hv
  | 1, hv => exact hv
  | 2, hv => exact hv
  | 3, hv => exact hv
  | 4, hv => exact hv
  | i + 5, hv => cases hv
end
end Go.Proofs.YtmooldhpiopcgaaGreatDoor
set_option linter.unusedSimpArgs false
set_option linter.unusedVariables false
set_option maxRecDepth 100000
namespace Go.Proofs.YtmooldhpiopcgaaGreatDoor
open Go Go.Vx Trx
section
variable {w w' : World} {S : Nat → Prop}
theorem _root_.Go.Vx.St.aggAt {M : Nat → Prop} {w0 : World} {ls : List (Nat × Obj)} (S : St M w0 w ls) (i : Nat) {b off n : Nat} {vs : Array Value} {K : World → Prop} {c : Array Value} {t : TypeId} (hi : ls[i]? = some (b, .cells c t (0, 0))) (hn : vs.size = n) (h1 : vs.toList.all isOne = true) (ho : off + n ≤ c.size)
    (h : ∀ w1, St M w0 w1 (ls.set i (b, .cells (setRow c off vs.toList) t (0, 0))) → K w1) : Go.Vx.aggSt ⟨b, off, none⟩ (.agg vs) n K w :=
  aggSt_r (S.at_ i hi) hn h1 ho fun w1 u hb _ => h w1 (set_loc S hi u hb)
def ncells (l r : Option Addr) (x : Pc) (n h : Nat) (s : Sums) : Array Value :=
  #[.pointer l, .pointer r, .slice x.bytes.a x.bytes.len x.bytes.cap, .int .i64 x.tag, .int .i64 (x.sm.atoms : Int), .int .i64 (x.sm.bytes : Int), .int .i64 (x.sm.breaks : Int), .bool x.sm.lf, .bool x.sm.cr,
    .int .i64 (n : Int), .int .i64 (h : Int), .int .i64 (s.atoms : Int), .int .i64 (s.bytes : Int), .int .i64 (s.breaks : Int), .bool s.lf, .bool s.cr]
def Trx.Tr.In (w : World) : Tr → Prop
  | .nil => True
  | .node b l x r => w.heap[b]? = some (.cells (ncells l.ptr r.ptr x (Tr.node b l x r).size (Tr.node b l x r).tall (tot (Tr.node b l x r).items)) 186 (0, 0)) ∧ l.In w ∧ r.In w
theorem Trx.Tr.In.ext : ∀ {t : Tr}, t.In w → Ext w w' → t.In w'
  | .nil, _, _ => trivial
  | .node _ _ _ _, h, e => ⟨e.ext_get h.1, h.2.1.ext e, h.2.2.ext e⟩
theorem Trx.Tr.In.ty : ∀ {t : Tr}, t.In w → Upd S w w' → NoTy w S 186 → t.In w'
  | .nil, _, _, _ => trivial
  | .node _ _ _ _, h, u, hS => ⟨u.get h.1 fun hk => hS _ hk _ _ h.1, h.2.1.ty u hS, h.2.2.ty u hS⟩
theorem nd_left {b : Nat} {l r : Tr} {x : Pc} (h : (Tr.node b l x r).In w) {K : Addr → Option Addr → World → Prop} (hK : K (at0 b) l.ptr w) : nn (Tr.node b l x r).ptr (fun p => ld .ptr p (K p)) w :=
  nn_some (ld_r h.1 (x := l.ptr) rfl hK)
theorem nd_right {b : Nat} {l r : Tr} {x : Pc} (h : (Tr.node b l x r).In w) {K : Addr → Option Addr → World → Prop} (hK : K (at0 b) r.ptr w) : nn (Tr.node b l x r).ptr (fun p => ld .ptr (p.add 1) (K p)) w :=
  nn_some (by rw [addr_add]; exact ld_r h.1 (x := r.ptr) rfl hK)
theorem item_at {b : Nat} {l r : Tr} {x : Pc} (h : (Tr.node b l x r).In w) : cellsAt w ((at0 b).add 2) 0 (Cells.vals c146 (pcT x)) := by
  rw [addr_add]
  refine cellsAt_of _ 0 fun j v hv => cell_of h.1 ?_
  match j, hv with
  | 0, hv => exact hv
  | 1, hv => exact hv
  | 2, hv => exact hv
  | 3, hv => exact hv
  | 4, hv => exact hv
  | 5, hv => exact hv
  | 6, hv => exact hv
  | j + 7, hv => cases hv
theorem sum_at {b : Nat} {l r : Tr} {x : Pc} (h : (Tr.node b l x r).In w) : cellsAt w ((at0 b).add 11) 0 (Cells.vals c144 (smT (tot (Tr.node b l x r).items))) := by
  rw [addr_add]
  refine cellsAt_of _ 0 fun j v hv => cell_of h.1 ?_
  match j, hv with
  | 0, hv => exact hv
  | 1, hv => exact hv
  | 2, hv => exact hv
  | 3, hv => exact hv
  | 4, hv => exact hv
  | j + 5, hv => cases hv
theorem nd_item {b : Nat} {l r : Tr} {x : Pc} (h : (Tr.node b l x r).In w) {K : Addr → Cells.T c146 → World → Prop} (hK : K (at0 b) (pcT x) w) : nn (Tr.node b l x r).ptr (fun p => lds c146 (p.add 2) (K p)) w :=
  nn_some ⟨pcT x, item_at h, hK⟩
theorem nd_sum {b : Nat} {l r : Tr} {x : Pc} (h : (Tr.node b l x r).In w) {K : Addr → Cells.T c144 → World → Prop} (hK : K (at0 b) (smT (tot (Tr.node b l x r).items)) w) : nn (Tr.node b l x r).ptr (fun p => lds c144 (p.add 11) (K p)) w :=
  nn_some ⟨_, sum_at h, hK⟩
theorem count_call {t : Tr} (h : t.In w) {K : Int → World → Prop} (hK : K (t.size : Int) w) : callT Tryz.prog 100 #[.pointer t.ptr] (.one (.one (.int .i64))) K w := by
  refine F100_calls ?_
  unfold F100
  cases t with
  | nil => exact sif_r (fun _ => hK) (fun h => by cases h)
  | node b l x r => exact sif_r (fun h => by cases h) (fun _ => nn_some (by rw [addr_add]; exact ld_r h.1 (x := ((Tr.node b l x r).size : Int)) rfl hK))
theorem tall_call {t : Tr} (h : t.In w) {K : Int → World → Prop} (hK : K (t.tall : Int) w) : callT Tryz.prog 198 #[.pointer t.ptr] (.one (.one (.int .i64))) K w := by
  refine F198_calls ?_
  unfold F198
  cases t with
  | nil => exact sif_r (fun _ => hK) (fun h => by cases h)
  | node b l x r => exact sif_r (fun h => by cases h) (fun _ => nn_some (by rw [addr_add]; exact ld_r h.1 (x := ((Tr.node b l x r).tall : Int)) rfl hK))
structure Fine (l : List Pc) : Prop where
  ok : AllOk l
  few : l.length < 2 ^ 60
  small : (tot l).bytes < 2 ^ 60
theorem tot_app_bytes {l m : List Pc} (h : AllOk l) (h' : AllOk m) : (tot (l ++ m)).bytes = (tot l).bytes + (tot m).bytes := by
  rw [tot_append h h']; exact (Sums.add_bytes _ _ (tot_ok h) (tot_ok h')).1
theorem Fine.left {l m : List Pc} (h : Fine (l ++ m)) : Fine l := ⟨h.ok.left, by have := h.few; rw [List.length_append] at this; omega, by
  have := h.small; rw [tot_app_bytes h.ok.left h.ok.right] at this; omega⟩
theorem Fine.right {l m : List Pc} (h : Fine (l ++ m)) : Fine m := ⟨h.ok.right, by have := h.few; rw [List.length_append] at this; omega, by
  have := h.small; rw [tot_app_bytes h.ok.left h.ok.right] at this; omega⟩
theorem set_sum (l r : Option Addr) (x : Pc) (n h : Nat) (s s' : Sums) : setRow (ncells l r x n h s) 11 (Cells.vals c144 (smT s')).toArray.toList = ncells l r x n h s' := rfl
theorem agg_sum {M : Nat → Prop} {w0 : World} {ls : List (Nat × Obj)} {b : Nat} {l r : Option Addr} {x : Pc} {n h : Nat} {s s' : Sums} {K : World → Prop} (S : St M w0 w ((b, .cells (ncells l r x n h s) 186 (0, 0)) :: ls))
    (hK : ∀ w1, St M w0 w1 ((b, .cells (ncells l r x n h s') 186 (0, 0)) :: ls) → K w1) : aggSt ((at0 b).add 11) (.agg (Cells.vals c144 (smT s')).toArray) 5 K w := by
  rw [addr_add]
  refine S.aggAt 0 (c := ncells l r x n h s) rfl rfl rfl (by show 0 + 11 + 5 ≤ 16; decide) fun w1 S1 => hK w1 ?_
  rw [Nat.zero_add, set_sum] at S1
  exact S1
theorem node_call {l r : Tr} {x : Pc} (hl : l.In w) (hr : r.In w) (hf : Fine (l.items ++ x :: r.items)) {K : Option Addr → World → Prop} (hK : ∀ b w', (Tr.node b l x r).In w' → Ext w w' → K (some (at0 b)) w') :
    callT Tryz.prog 158 #[.pointer l.ptr, pcV x, .pointer r.ptr] (.one (.one .ptr)) K w := by
  refine F158_calls (a1 := pcT x) ?_
  unfold F158
  have okl := hf.ok.left
  have okx := hf.ok.right.head
  have okr := hf.ok.right.tail
  have sl := size_items l; have sr := size_items r
  have tl := tall_le l; have tr := tall_le r
  have few := hf.few
  rw [List.length_append, List.length_cons] at few
  have small := hf.small
  have ex : x :: r.items = [x] ++ r.items := rfl
  rw [ex, tot_app_bytes okl (AllOk.append (AllOk.one okx) okr), tot_app_bytes (AllOk.one okx) okr, tot_one okx] at small
  refine (St.start w).newO fun b1 w1 S1 e1 => S1.drew fun w2 S2 e2 _ => S2.lds 0 (pcT x) rfl ?_
  have e12 := e1.trans e2
  have hl2 := hl.ext e12; have hr2 := hr.ext e12
  refine count_call hl2 (S2.keeps 0 rfl (count_call hr2 (S2.keeps 0 rfl (tall_call hl2 (S2.keeps 0 rfl (tall_call hr2 (S2.keeps 0 rfl ?_)))))))
  have es : IntKind.wrap .i64 (IntKind.wrap .i64 ((l.size : Int) + 1) + (r.size : Int)) = (((l.size + 1 + r.size : Nat)) : Int) := by
    rw [wrap64 (a := (l.size : Int) + 1) (by omega) (by omega), wrap64 (by omega) (by omega)]; omega
  have et : IntKind.wrap .i64 ((if (r.tall : Int) > (l.tall : Int) then (r.tall : Int) else (l.tall : Int)) + 1) = ((max l.tall r.tall + 1 : Nat) : Int) := by
    have e : (if (r.tall : Int) > (l.tall : Int) then (r.tall : Int) else (l.tall : Int)) = ((max l.tall r.tall : Nat) : Int) := by split <;> omega
    rw [e, wrap64 (by omega) (by omega)]; omega
  rw [es, et]
  refine S2.newO fun b7 w3 S3 e3 => S3.lds 1 (pcT x) rfl (measure_x fun w4 e4 => nn_some ?_)
  have S4 := S3.ext e4
  have e14 := (e12.trans e3).trans e4
  have S4' : St (fun _ => False) w w4 [(b7, .cells (ncells l.ptr r.ptr x (l.size + 1 + r.size) (max l.tall r.tall + 1) .zero) 186 (0, 0)), (b1, .cells (Cells.vals c146 (pcT x)).toArray 146 (0, 0))] := S4
  refine agg_sum (s' := x.sm) S4' fun w5 S5 => ?_
  have J0 : ∀ (w' : World) (s : Sums), St (fun _ => False) w w' [(b7, .cells (ncells l.ptr r.ptr x (l.size + 1 + r.size) (max l.tall r.tall + 1) s) 186 (0, 0)), (b1, .cells (Cells.vals c146 (pcT x)).toArray 146 (0, 0))] →
      cellsAt w' ((at0 b7).add 11) 0 (Cells.vals c144 (smT s)) := by
    intro w' s S'
    rw [addr_add]
    refine cellsAt_of _ 0 fun j v hv => cell_of (S'.at_ 0 rfl) ?_
    match j, hv with
    | 0, hv => exact hv
    | 1, hv => exact hv
    | 2, hv => exact hv
    | 3, hv => exact hv
    | 4, hv => exact hv
    | j + 5, hv => cases hv
  have okt := tot_ok okl; have okt' := tot_ok okr
  refine join_r (fun _ w' => St (fun _ => False) w w' [(b7, .cells (ncells l.ptr r.ptr x (l.size + 1 + r.size) (max l.tall r.tall + 1) ((tot l.items).add x.sm)) 186 (0, 0)), (b1, .cells (Cells.vals c146 (pcT x)).toArray 146 (0, 0))]) ?_ ?_
  · cases l with
    | nil => exact sif_r (fun h => by cases h) (fun _ => S5)
    | node bl ll xl rl =>
      refine sif_r (fun _ => S5.drew fun w6 S6 e6 _ => ?_) (fun h => by cases h)
      refine nd_sum (hl.ext S6.upd) (nn_some ⟨_, J0 w6 x.sm S6, ?_⟩)
      exact add_x okt okx (by omega) fun w7 e7 => nn_some (agg_sum (S6.ext e7) fun w8 S8 => S8)
  intro _ w6 S6
  have okm := Sums.add_ok okt okx
  have bm := (Sums.add_bytes _ _ okt okx).1
  have fin : (tot (l.items ++ x :: r.items)) = ((tot l.items).add x.sm).add (tot r.items) := by
    rw [ex, tot_append okl (AllOk.append (AllOk.one okx) okr), tot_append (AllOk.one okx) okr, tot_one okx, Sums.add_assoc okt okx okt']
  refine join_r (fun _ w' => St (fun _ => False) w w' [(b7, .cells (ncells l.ptr r.ptr x (l.size + 1 + r.size) (max l.tall r.tall + 1) (((tot l.items).add x.sm).add (tot r.items))) 186 (0, 0)), (b1, .cells (Cells.vals c146 (pcT x)).toArray 146 (0, 0))]) ?_ ?_
  · cases r with
    | nil =>
      have e : ((tot l.items).add x.sm).add (tot (Tr.nil).items) = (tot l.items).add x.sm := Sums.add_zero okm
      rw [e]
      exact sif_r (fun h => by cases h) (fun _ => S6)
    | node br lr xr rr =>
      refine sif_r (fun _ => S6.drew fun w7 S7 e7 _ => ?_) (fun h => by cases h)
      refine nn_some ⟨_, J0 w7 _ S7, nd_sum (hr.ext S7.upd) ?_⟩
      exact add_x okm okt' (by omega) fun w8 e8 => nn_some (agg_sum (S7.ext e8) fun w9 S9 => S9)
  intro _ w7 S7
  refine hK b7 w7 ⟨?_, hl.ext S7.upd, hr.ext S7.upd⟩ S7.upd
  have := S7.at_ 0 rfl
  rw [← fin] at this
  exact this
end
end Go.Proofs.YtmooldhpiopcgaaGreatDoor
set_option linter.unusedSimpArgs false
set_option linter.unusedVariables false
set_option maxRecDepth 100000
namespace Go.Proofs.YtmooldhpiopcgaaGreatDoor
open Go Go.Vx Trx
section
variable {w w' : World} {S : Nat → Prop}
abbrev GivesT (w : World) (l : List Pc) (K : Option Addr → World → Prop) : Prop := ∀ (t : Tr) (w' : World), t.In w' → t.items = l → Ext w w' → K t.ptr w'
theorem GivesT.ext {l : List Pc} {K : Option Addr → World → Prop} (h : GivesT w l K) (e : Ext w w') : GivesT w' l K := fun t w2 h1 h2 e2 => h t w2 h1 h2 (e.trans e2)
theorem node_gives {l r : Tr} {x : Pc} {L : List Pc} (hl : l.In w) (hr : r.In w) (hf : Fine L) (hL : l.items ++ x :: r.items = L) {K : Option Addr → World → Prop} (hK : GivesT w L K) :
    callT Tryz.prog 158 #[.pointer l.ptr, pcV x, .pointer r.ptr] (.one (.one .ptr)) K w :=
  node_call hl hr (hL ▸ hf) fun b w' h1 e1 => hK _ _ h1 hL e1
end
end Go.Proofs.YtmooldhpiopcgaaGreatDoor
set_option linter.unusedSimpArgs false
set_option linter.unusedVariables false
set_option maxRecDepth 100000
namespace Go.Proofs.YtmooldhpiopcgaaGreatDoor
open Go Go.Vx Trx
section
variable {w w' : World} {S : Nat → Prop}
theorem flat_drop (cs : List Cell) : ∀ (xs : List (Cells.T cs)) (n : Nat), (flat cs xs).drop (n * cs.length) = flat cs (xs.drop n)
  | xs, 0 => by simp
  | [], n + 1 => by simp [flat]
  | x :: xs, n + 1 => by
    have e : flat cs (x :: xs) = Cells.vals cs x ++ flat cs xs := rfl
    rw [e, Nat.add_mul, Nat.one_mul, Nat.add_comm, ← List.drop_drop, ← vals_len cs x, List.drop_left, List.drop_succ_cons, vals_len cs x]
    exact flat_drop cs xs n
theorem flat_take (cs : List Cell) : ∀ (xs : List (Cells.T cs)) (n : Nat), (flat cs xs).take (n * cs.length) = flat cs (xs.take n)
  | xs, 0 => by simp [flat]
  | [], n + 1 => by simp [flat]
  | x :: xs, n + 1 => by
    have e : flat cs (x :: xs) = Cells.vals cs x ++ flat cs xs := rfl
    have e2 : flat cs ((x :: xs).take (n + 1)) = Cells.vals cs x ++ flat cs (xs.take n) := rfl
    rw [e, e2, Nat.add_mul, Nat.one_mul, Nat.add_comm, ← vals_len cs x, List.take_length_add_append, vals_len cs x, flat_take cs xs n]
abbrev Ps (w : World) (s : Sl) (l : List Pc) : Prop := SlIn w s 146 7 (flat c146 (l.map pcT))
theorem Ps.len {s : Sl} {l : List Pc} (h : Ps w s l) : l.length = s.len := by
  have := SlIn.lenR (cs := c146) h (by decide)
  rwa [List.length_map] at this
theorem slc_ps {s : Sl} {l : List Pc} {a b m : Int} {K : Sl → World → Prop} (hs : Ps w s l) (h0 : 0 ≤ a) (h1 : a ≤ b) (h2 : b ≤ s.len) (h3 : b ≤ m) (h4 : m ≤ s.cap)
    (hK : ∀ s', Ps w s' ((l.drop a.toNat).take (b.toNat - a.toNat)) → K s' w) : slc s.a a b m s.cap 7 K w :=
  slc_r hs h0 h1 h2 h3 h4 fun s' hs' _ _ _ => hK s' (by
    have e1 := flat_drop c146 (l.map pcT) a.toNat
    have e2 := flat_take c146 ((l.map pcT).drop a.toNat) (b.toNat - a.toNat)
    rw [show c146.length = 7 from rfl] at e1 e2
    rw [e1, e2, ← List.map_drop, ← List.map_take] at hs'
    exact hs')
theorem ix_ldsk {cs : List Cell} {s : Sl} {t : TypeId} {xs : List (Cells.T cs)} {n : Int} {K : Addr → Cells.T cs → World → Prop} (h : SlIn w s t cs.length (flat cs xs)) (hc : 0 < cs.length) (h0 : 0 ≤ n) {x : Cells.T cs} (hx : xs[n.toNat]? = some x)
    (hK : ∀ p, (∀ w', Ext w w' → cellsAt w' (p.add (scaled (Int.toNat n) cs.length)) 0 (Cells.vals cs x)) → K p x w) :
    ix s.a s.len n (fun p => lds cs (p.add (scaled (Int.toNat n) cs.length)) (K p)) w := by
  have hlt := (List.getElem?_eq_some_iff.1 hx).1
  have hl := h.lenR hc
  have key : ∀ {w' : World}, SlIn w' s t cs.length (flat cs xs) → ∀ b off, s.a = some ⟨b, off, none⟩ → cellsAt w' ((⟨b, off, none⟩ : Addr).add (scaled (Int.toNat n) cs.length)) 0 (Cells.vals cs x) := by
    intro w' h' b off ha
    rcases h'.at_ with ⟨hn, _⟩ | ⟨b', off', c, fr, ha', hb, _, hv⟩
    · rw [hn] at ha; cases ha
    · rw [ha'] at ha; cases ha
      rw [addr_add]
      refine cellsAt_of _ 0 fun j v hj => ?_
      have hjl : j < cs.length := by
        have := (List.getElem?_eq_some_iff.1 hj).1
        rwa [vals_len] at this
      have h2 := hv (n.toNat * cs.length + j) v (by rw [flat_get cs xs _ j x hx hjl]; exact hj)
      refine cell_of hb ?_
      rw [scaled_eq, show off + n.toNat * cs.length + (0 + j) = off + (n.toNat * cs.length + j) by omega]
      exact h2
  refine h.ix h0 (by omega) hc fun b off ha hv => ⟨x, key h b off ha, hK _ fun w' e => key (h.ext e) b off ha⟩
theorem build_call : ∀ (n : Nat) (l : List Pc) (s : Sl) (w : World), l.length ≤ n → Ps w s l → Fine l → ∀ {K : Option Addr → World → Prop}, GivesT w l K → callT Tryz.prog 129 #[.slice s.a s.len s.cap] (.one (.one .ptr)) K w := by
  intro n
  induction n with
  | zero =>
    intro l s w hn hs hf K hK
    obtain rfl : l = [] := List.length_eq_zero_iff.1 (by omega)
    have hl := hs.len
    refine F129_calls ?_
    unfold F129
    exact sif_r (fun _ => hK .nil w trivial rfl (Ext.refl w)) (fun h => by simp at hl; simp [← hl] at h)
  | succ n ih =>
    intro l s w hn hs hf K hK
    have hl := hs.len
    have hcap := hs.le
    have few := hf.few
    refine F129_calls ?_
    unfold F129
    refine sif_r (fun h => ?_) (fun h => chk_r (by decide) (drew_r fun w1 e1 _ => ?_))
    · simp only [beq_iff_eq] at h
      obtain rfl : l = [] := List.length_eq_zero_iff.1 (by omega)
      exact hK .nil w trivial rfl (Ext.refl w)
    simp only [beq_eq_false_iff_ne] at h
    have hs1 : Ps w1 s l := hs.ext e1
    obtain ⟨k, hk⟩ : ∃ k, k = l.length / 2 := ⟨_, rfl⟩
    have ek : IntKind.wrap .i64 (Int.tdiv ((s.len : Nat) : Int) 2) = (k : Int) := by
      rw [Int.tdiv_eq_ediv_of_nonneg (by omega), wrap64 (by omega) (by omega)]; omega
    have ek1 : IntKind.wrap .i64 ((k : Int) + 1) = ((k + 1 : Nat) : Int) := by rw [wrap64 (by omega) (by omega)]; omega
    rw [ek, ek1]
    have hkl : k < l.length := by omega
    refine slc_ps hs1 (by decide) (by omega) (by omega) (by omega) (by omega) fun s1 h1 => ?_
    refine ix_ldsk (cs := c146) (xs := l.map pcT) hs1 (by decide) (by omega) (x := pcT l[k]) (by rw [Int.toNat_natCast, List.getElem?_map, List.getElem?_eq_getElem hkl]; rfl) fun p hp => ?_
    refine slc_ps hs1 (by omega) (by omega) (by omega) (by omega) (by omega) fun s2 h2 => ?_
    have t1 : (l.drop (0 : Int).toNat).take ((k : Int).toNat - (0 : Int).toNat) = l.take k := by simp
    have t2 : (l.drop ((k + 1 : Nat) : Int).toNat).take (((s.len : Nat) : Int).toNat - ((k + 1 : Nat) : Int).toNat) = l.drop (k + 1) := by
      rw [Int.toNat_natCast, Int.toNat_natCast]
      have : s.len - (k + 1) = (l.drop (k + 1)).length := by rw [List.length_drop]; omega
      rw [this, List.take_length]
    rw [t1] at h1
    rw [t2] at h2
    have eq : l.take k ++ l[k] :: l.drop (k + 1) = l := by rw [← List.drop_eq_getElem_cons hkl, List.take_append_drop]
    have hf' := eq.symm ▸ hf
    refine ih (l.take k) s1 w1 (by rw [List.length_take]; omega) h1 hf'.left fun a w2 ha hai e2 => keep_r (hp w2 e2) ?_
    refine ih (l.drop (k + 1)) s2 w2 (by rw [List.length_drop]; omega) (SlIn.ext h2 e2) (Fine.right (l := [l[k]]) hf'.right) fun b w3 hb hbi e3 => keep_r (hp w3 (e2.trans e3)) ?_
    exact node_gives (ha.ext e3) hb hf (by rw [hai, hbi, eq]) (hK.ext ((e1.trans e2).trans e3))
theorem treeOf_call {l : List Pc} {s : Sl} (hs : Ps w s l) (hf : Fine l) {K : Cells.T c139 → World → Prop} (hK : ∀ (t : Tr) (w' : World), t.In w' → t.items = l → Ext w w' → K (t.ptr, ()) w') :
    callT Tryz.prog 86 #[.slice s.a s.len s.cap] (.one (.agg c139)) K w := by
  refine F86_calls ?_
  unfold F86
  refine (St.start w).newO fun b1 w1 S1 e1 => build_call _ l s w1 (Nat.le_refl _) (SlIn.ext hs e1) hf fun t w2 ht hti e2 => ?_
  refine (S1.ext e2).aggSt 0 rfl rfl rfl rfl fun w3 S3 u3 => S3.lds 0 (t.ptr, ()) rfl (hK t w3 (ht.ty u3 ?_) hti S3.upd)
  rintro k rfl c fr hc
  have := (S1.ext e2).at_ 0 rfl
  rw [hc] at this; cases this
end
end Go.Proofs.YtmooldhpiopcgaaGreatDoor
set_option linter.unusedSimpArgs false
set_option linter.unusedVariables false
set_option maxRecDepth 100000
namespace Go.Proofs.YtmooldhpiopcgaaGreatDoor
open Go Go.Vx Trx
section
variable {w w' : World} {S : Nat → Prop}
theorem upd_putObj {m : Nat} {o o' : Obj} (hm : w.heap[m]? = some o) : Upd (fun k => k = m) w (w.putObj m o') ∧ (w.putObj m o').heap[m]? = some o' := upd_setObj hm
def prot : Obj → Bool
  | .cells _ t _ => t == 186 || (t == 183 || (t == 184 || t == 146))
  | .deferred _ => true
  | _ => false
structure Stay (W W' : World) : Prop where
  size : W.heap.size ≤ W'.heap.size
  at_ : ∀ (k : Nat) (o : Obj), W.heap[k]? = some o → prot o = true → W'.heap[k]? = some o
theorem Stay.refl (W : World) : Stay W W := ⟨Nat.le_refl _, fun _ _ h _ => h⟩
theorem Stay.trans {W W' W'' : World} (h : Stay W W') (h' : Stay W' W'') : Stay W W'' := ⟨Nat.le_trans h.size h'.size, fun k o ho hp => h'.at_ k o (h.at_ k o ho hp) hp⟩
theorem Stay.ext {W W' : World} (e : Ext W W') : Stay W W' := ⟨e.size, fun _ _ h _ => e.ext_get h⟩
theorem Stay.upd {W W' : World} (u : Upd S W W') (h : ∀ k, S k → ∀ o, W.heap[k]? = some o → prot o = false) : Stay W W' :=
  ⟨u.size, fun k o ho hp => u.get ho fun hk => by rw [h k hk o ho] at hp; cases hp⟩
theorem Trx.Tr.In.stay : ∀ {t : Tr}, t.In w → Stay w w' → t.In w'
  | .nil, _, _ => trivial
  | .node _ _ _ _, h, s => ⟨s.at_ _ _ h.1 rfl, h.2.1.stay s, h.2.2.stay s⟩
theorem yield_x {l : Nat} {v : Value} {R : Bool → World → Prop} (h : yieldX Tryz.prog l [v] R w) :
    callX Tryz.prog (do let d ← Deferred.ofValue (.func (.yield l) #[] #[]) #[v]; invoke d.target d.args : Sem Next) (.one (.one .bool)) R w := by
  obtain ⟨f, tmps, assign, body, h1, h2⟩ := h
  refine .inr (.inr ⟨l, f, tmps, assign, body, ?_, h2⟩)
  simp only [Deferred.ofValue, pure_bind, invoke]
  exact h1
structure ItE (l b1 b2 : Nat) (W : World) : Prop where
  y : W.heap[b1]? = some (.cells #[.func (.yield l) #[] #[]] 183 (0, 0))
  f : W.heap[b2]? = some (.cells #[.func (.func 99) #[] #[.pointer (some (at0 b2)), .pointer (some (at0 b1))]] 184 (0, 0))
theorem ItE.stay {l b1 b2 : Nat} (h : ItE l b1 b2 w) (s : Stay w w') : ItE l b1 b2 w' := ⟨s.at_ _ _ h.y rfl, s.at_ _ _ h.f rfl⟩
theorem items_walk {l b1 b2 : Nat} {rc : LoopState → Option Code → Loop} {its : List Pc} {Inv : Nat → World → Prop} {Brk : World → Prop}
    (hx : ∀ j W W', Inv j W → Ext W W' → Inv j W')
    (hy : ∀ (j : Nat) (x : Pc) (W : World) (K : Bool → World → Prop), its[j]? = some x → Inv j W → W.heap[l]? = some (.loop (rc .ready none)) →
      (∀ c W', Stay W W' → (c = true → Inv (j + 1) W' ∧ W'.heap[l]? = some (.loop (rc .ready none))) → (c = false → Brk W') → K c W') → yieldX Tryz.prog l [pcV x] K W) :
    ∀ (t : Tr) (m : Nat) (pre post : List Pc) (W : World) (K : Bool → World → Prop), t.In W → ItE l b1 b2 W → W.heap[l]? = some (.loop (rc .ready none)) → Fine t.items → m < 2 ^ 61 → its = pre ++ (t.items.drop m ++ post) → Inv pre.length W →
      (∀ c W', Stay W W' → (c = true → Inv (pre.length + (t.items.length - m)) W' ∧ W'.heap[l]? = some (.loop (rc .ready none))) → (c = false → Brk W') → K c W') →
      callT Tryz.prog 99 #[.pointer t.ptr, .int .i64 (m : Int), .pointer (some (at0 b2)), .pointer (some (at0 b1))] (.one (.one .bool)) K W := by
  intro t
  induction t with
  | nil =>
    intro m pre post W K _ hE hr _ _ hi hI hK
    refine F99_calls ?_
    unfold F99
    refine join_r (fun s W' => s = (true, ()) ∧ W = W') (sif_r (fun _ => ⟨rfl, rfl⟩) (fun h => by cases h)) ?_
    rintro _ _ ⟨rfl, rfl⟩
    exact sif_true (hK true W (Stay.refl W) (fun _ => ⟨by simpa [Tr.items] using hI, hr⟩) (fun h => by cases h))
  | node b lt x rt ihl ihr =>
    intro m pre post W K ht hE hr hf hm hi hI hK
    refine F99_calls ?_
    unfold F99
    have hti : (Tr.node b lt x rt).items = lt.items ++ x :: rt.items := rfl
    have hsz : (Tr.node b lt x rt).items.length = (Tr.node b lt x rt).size := size_items _
    have hsl := size_items lt
    have hlen : (Tr.node b lt x rt).items.length = lt.items.length + 1 + rt.items.length := by rw [hti]; simp; omega
    have few := hf.few
    have hfl : Fine lt.items := hf.left
    have hfr : Fine rt.items := by
      have h2 : Fine (x :: rt.items) := (hti ▸ hf).right
      have ex : x :: rt.items = [x] ++ rt.items := rfl
      exact (ex ▸ h2).right
    refine join_r (fun s W' => s = (decide ((m : Int) ≥ (((Tr.node b lt x rt).size : Nat) : Int)), ()) ∧ W = W') (sif_r (fun h => by cases h) (fun _ => nn_some (by rw [addr_add]; exact ld_r ht.1 (x := ((Tr.node b lt x rt).size : Int)) rfl ⟨rfl, rfl⟩))) ?_
    rintro _ _ ⟨rfl, rfl⟩
    refine sif_r (fun h => ?_) (fun h => ?_)
    · simp only [decide_eq_true_eq, ge_iff_le] at h
      refine hK true W (Stay.refl W) (fun _ => ⟨?_, hr⟩) (fun h => by cases h)
      have : (Tr.node b lt x rt).items.length - m = 0 := by omega
      rw [this]; exact hI
    simp only [decide_eq_false_iff_not, ge_iff_le] at h
    refine nd_left ht (count_call ht.2.1 ?_)
    refine join_r (fun s W' => (s.1 = false → Stay W W' ∧ Inv (pre.length + (lt.items.length - m)) W' ∧ W'.heap[l]? = some (.loop (rc .ready none))) ∧ (s.1 = true → Stay W W' ∧ Brk W')) ?_ ?_
    · refine drew_r fun W1 e1 _ => ?_
      have s1 := Stay.ext e1
      refine sif_r (fun h2 => ?_) (fun h2 => ?_)
      · simp only [decide_eq_true_eq] at h2
        refine ld_r (hE.stay s1).f (x := (.func (.func 99) #[] #[.pointer (some (at0 b2)), .pointer (some (at0 b1))] : Value)) rfl ?_
        refine nd_left (ht.stay s1) (func_x (by kernel_rfl) ?_)
        refine ihl m pre (x :: rt.items ++ post) W1 _ (ht.2.1.stay s1) (hE.stay s1) (e1.ext_get hr) hfl hm ?_ (hx _ _ _ hI e1) ?_
        · rw [hi, hti, List.drop_append_of_le_length (by omega)]; simp
        · intro c W2 s2 ht2 hf2
          refine ⟨fun hc => ?_, fun hc => ?_⟩
          · have hct : c = true := by simpa using hc
            obtain ⟨i2, r2⟩ := ht2 hct
            exact ⟨s1.trans s2, i2, r2⟩
          · have hcf : c = false := by simpa using hc
            exact ⟨s1.trans s2, hf2 hcf⟩
      · simp only [decide_eq_false_iff_not] at h2
        refine ⟨fun _ => ⟨s1, ?_, e1.ext_get hr⟩, fun h => by cases h⟩
        have : lt.items.length - m = 0 := by omega
        rw [this]; exact hx _ _ _ hI e1
    rintro ⟨sb, _⟩ W2 ⟨hA, hB⟩
    refine sif_r (fun e => ?_) (fun e => ?_)
    · obtain ⟨s2, hb2⟩ := hB e
      exact hK false W2 s2 (fun h => by cases h) (fun _ => hb2)
    obtain ⟨s2, i2, r2⟩ := hA e
    refine join_r (fun s W' => (s.1 = false → Stay W W' ∧ Inv (pre.length + (lt.items.length - m) + (if m ≤ lt.items.length then 1 else 0)) W' ∧ W'.heap[l]? = some (.loop (rc .ready none))) ∧ (s.1 = true → Stay W W' ∧ Brk W')) ?_ ?_
    · refine drew_r fun W3 e3 _ => ?_
      have s3 := s2.trans (Stay.ext e3)
      refine sif_r (fun h3 => ?_) (fun h3 => ?_)
      · simp only [decide_eq_true_eq] at h3
        have hle : m ≤ lt.items.length := by omega
        refine ld_r (hE.stay s3).y (x := (.func (.yield l) #[] #[] : Value)) rfl ?_
        refine nd_item (ht.stay s3) (yield_x (hy (pre.length + (lt.items.length - m)) x W3 _ ?_ (hx _ _ _ i2 e3) (e3.ext_get r2) ?_))
        · rw [hi, hti, List.drop_append_of_le_length hle, List.getElem?_append_right (by omega), List.append_assoc, List.getElem?_append_right (by rw [List.length_drop]; omega)]
          have : pre.length + (lt.items.length - m) - pre.length - (lt.items.drop m).length = 0 := by rw [List.length_drop]; omega
          rw [this]; rfl
        · intro c W4 s4 ht4 hf4
          refine ⟨fun hc => ?_, fun hc => ?_⟩
          · have hct : c = true := by simpa using hc
            obtain ⟨i4, r4⟩ := ht4 hct
            rw [if_pos hle]
            exact ⟨s3.trans s4, i4, r4⟩
          · have hcf : c = false := by simpa using hc
            exact ⟨s3.trans s4, hf4 hcf⟩
      · simp only [decide_eq_false_iff_not] at h3
        refine ⟨fun _ => ⟨s3, ?_, e3.ext_get r2⟩, fun h => by cases h⟩
        rw [if_neg (by omega)]; exact hx _ _ _ i2 e3
    rintro ⟨sb, _⟩ W4 ⟨hA, hB⟩
    refine sif_r (fun e => ?_) (fun e => ?_)
    · obtain ⟨s4, hb4⟩ := hB e
      exact hK false W4 s4 (fun h => by cases h) (fun _ => hb4)
    obtain ⟨s4, i4, r4⟩ := hA e
    refine drew_r fun W5 e5 _ => ?_
    have s5 := s4.trans (Stay.ext e5)
    refine ld_r (hE.stay s5).f (x := (.func (.func 99) #[] #[.pointer (some (at0 b2)), .pointer (some (at0 b1))] : Value)) rfl ?_
    refine nd_right (ht.stay s5) (func_x (by kernel_rfl) ?_)
    have ew : (if IntKind.wrap .i64 (IntKind.wrap .i64 ((m : Int) - (lt.size : Int)) - 1) > 0 then IntKind.wrap .i64 (IntKind.wrap .i64 ((m : Int) - (lt.size : Int)) - 1) else 0) = ((m - lt.items.length - 1 : Nat) : Int) := by
      rw [wrap64 (a := (m : Int) - (lt.size : Int)) (by omega) (by omega), wrap64 (by omega) (by omega)]
      split <;> omega
    rw [ew]
    have fin : ∀ (pre' : List Pc), its = pre' ++ (rt.items.drop (m - lt.items.length - 1) ++ post) → pre'.length = pre.length + (lt.items.length - m) + (if m ≤ lt.items.length then 1 else 0) →
        callT Tryz.prog 99 #[.pointer rt.ptr, .int .i64 ((m - lt.items.length - 1 : Nat) : Int), .pointer (some (at0 b2)), .pointer (some (at0 b1))] (.one (.one .bool)) K W5 := by
      intro pre' hp hl
      refine ihr _ pre' post W5 K (ht.2.2.stay s5) (hE.stay s5) (e5.ext_get r4) hfr (by omega) hp (by rw [hl]; exact hx _ _ _ i4 e5) ?_
      intro c W6 s6 ht6 hf6
      refine hK c W6 (s5.trans s6) (fun hc => ?_) hf6
      have h6 := ht6 hc
      have el : pre'.length + (rt.items.length - (m - lt.items.length - 1)) = pre.length + ((Tr.node b lt x rt).items.length - m) := by
        rw [hl, hlen]; split <;> omega
      rw [el] at h6
      exact h6
    by_cases hle : m ≤ lt.items.length
    · refine fin (pre ++ (lt.items.drop m ++ [x])) ?_ ?_
      · rw [hi, hti, List.drop_append_of_le_length hle]
        have : m - lt.items.length - 1 = 0 := by omega
        rw [this]; simp
      · rw [if_pos hle]; simp; omega
    · refine fin pre ?_ ?_
      · rw [hi, hti, List.drop_append]
        have e1 : lt.items.drop m = [] := List.drop_eq_nil_of_le (by omega)
        obtain ⟨q, hq⟩ : ∃ q, m - lt.items.length = q + 1 := ⟨m - lt.items.length - 1, by omega⟩
        rw [e1, hq]; simp
      · rw [if_neg hle]; omega
theorem items_range {t : Tr} {n b1 b2 : Nat} {vals : Cells.T c146 × Unit → List Value} {body : Nat → (LoopState → Option Code → Loop) → (Bool → World → Prop) → Cells.T c146 × Unit → World → Prop} {aft' : Nat → Option Code → World → Prop}
    (hv : ∀ s, vals s = [.agg (Cells.vals c146 s.1).toArray]) (h1 : w.heap[b1]? = some (.cells #[.pointer t.ptr] 139 (0, 0))) (h2 : w.heap[b2]? = some (.cells #[.int .i64 (n : Int)] 3 (0, 0))) (ht : t.In w) (hf : Fine t.items) (hn : n < 2 ^ 61)
    (Inv : Nat → World → Prop) (Brk : Code → World → Prop) (h0 : ∀ W, Ext w W → w.heap.size + 2 ≤ W.heap.size → Inv 0 W) (hx : ∀ j W W', Inv j W → Ext W W' → Inv j W')
    (hb : ∀ (rc : LoopState → Option Code → Loop) j x R W, (t.items.drop n)[j]? = some x → Inv j W → W.heap[w.heap.size + 1]? = some (.loop (rc .ready none)) →
      (∀ W', Stay W W' → Inv (j + 1) W' → W'.heap[w.heap.size + 1]? = some (.loop (rc .ready none)) → R true W') → (∀ e W', Stay W W' → W'.heap[w.heap.size + 1]? = some (.loop (rc .done (some e))) → Brk e W' → R false W') → body (w.heap.size + 1) rc R (pcT x, ()) W)
    (he : ∀ W W', Inv (t.items.length - n) W → W'.heap[w.heap.size]? = some (.deferred (some [])) → Upd (fun k => k = w.heap.size + 1) W W' → aft' w.heap.size none W')
    (hk : ∀ e W W', Brk e W → W'.heap[w.heap.size]? = some (.deferred (some [])) → Upd (fun k => k = w.heap.size + 1) W W' → aft' w.heap.size (some e) W') :
    rangeE Tryz.prog vals (.func (.func 98) #[] #[.pointer (some (at0 b1)), .pointer (some (at0 b2))]) body aft' w := by
  intro rc hyield
  have e0 : Ext w (w.alloc (.deferred (some []))) := Ext.alloc w _
  generalize hW0 : w.alloc (.deferred (some [])) = W0 at *
  have d0 : W0.heap[w.heap.size]? = some (.deferred (some [])) := by rw [← hW0]; exact heap_alloc w _
  have z0 : W0.heap.size = w.heap.size + 1 := by rw [← hW0]; simp
  have e1 : Ext W0 (W0.alloc (.loop (rc .ready none))) := Ext.alloc W0 _
  have l1 : (W0.alloc (.loop (rc .ready none))).heap[w.heap.size + 1]? = some (.loop (rc .ready none)) := by rw [← z0]; exact heap_alloc W0 _
  have z1 : (W0.alloc (.loop (rc .ready none))).heap.size = w.heap.size + 2 := by simp [z0]
  generalize hW1 : W0.alloc (.loop (rc .ready none)) = W1 at *
  refine ⟨98, #[.func (.yield (w.heap.size + 1)) #[] #[], .pointer (some (at0 b1)), .pointer (some (at0 b2))], ?_, ?_⟩
  · simp only [Deferred.ofValue, pure_bind, invoke]
    exact run_callFunc (P := Tryz.prog) (f := 98) (by kernel_rfl) W1
  have e01 := e0.trans e1
  refine F98_calls ?_
  unfold F98
  refine chk_r rfl ((St.start W1).newO fun c1 W2 S2 e2 => S2.newO fun c2 W3 S3 e3 => chk_r rfl (S3.stC 0 rfl (by decide) fun W4 S4 u4 => ?_))
  have e14 := S4.upd
  have hE : ItE (w.heap.size + 1) c1 c2 W4 := ⟨S4.at_ 1 rfl, S4.at_ 0 rfl⟩
  have ew4 := e01.trans e14
  refine S4.ld 0 rfl (x := (.func (.func 99) #[] #[.pointer (some (at0 c2)), .pointer (some (at0 c1))] : Value)) rfl (ld_r (ew4.ext_get h1) (x := t.ptr) rfl (ld_r (ew4.ext_get h2) (x := (n : Int)) rfl (func_x (by kernel_rfl) ?_)))
  have ew : (if (n : Int) > 0 then (n : Int) else 0) = (n : Int) := by split <;> omega
  rw [ew]
  refine items_walk (Inv := Inv) (Brk := fun W => ∃ e, W.heap[w.heap.size + 1]? = some (.loop (rc .done (some e))) ∧ Brk e W) (its := t.items.drop n) (rc := rc) hx ?_ t n [] [] W4 _ (ht.ext ew4) hE (e14.ext_get l1) hf hn (by simp) (h0 W4 ew4 (by have := e14.size; omega)) ?_
  · intro j x W K hj hI hr hK
    have := hyield K (pcT x, ()) W hr (hb rc j x K W hj hI hr (fun W' s i r => hK true W' s (fun _ => ⟨i, r⟩) (fun h => by cases h)) (fun e W' s r b => hK false W' s (fun h => by cases h) (fun _ => ⟨e, r, b⟩)))
    rw [hv] at this
    exact this
  · intro c W5 s5 ht5 hf5
    have d5 := s5.at_ _ _ (e14.ext_get (e1.ext_get d0)) rfl
    have fin : ∀ st pe, W5.heap[w.heap.size + 1]? = some (.loop (rc st pe)) → (W5.putObj (w.heap.size + 1) (.loop (rc .exhausted pe))).heap[w.heap.size]? = some (.deferred (some [])) ∧ Upd (fun k => k = w.heap.size + 1) W5 (W5.putObj (w.heap.size + 1) (.loop (rc .exhausted pe))) := by
      intro st pe h
      obtain ⟨u, _⟩ := upd_putObj (o' := .loop (rc .exhausted pe)) h
      exact ⟨u.get d5 (by omega), u⟩
    cases c with
    | true =>
      obtain ⟨i5, r5⟩ := ht5 rfl
      obtain ⟨d6, u6⟩ := fin _ _ r5
      refine ⟨.ready, none, r5, by decide, he W5 _ ?_ d6 u6⟩
      simpa using i5
    | false =>
      obtain ⟨e, r5, b5⟩ := hf5 rfl
      obtain ⟨d6, u6⟩ := fin _ _ r5
      exact ⟨.done, some e, r5, by decide, hk e W5 _ b5 d6 u6⟩
end
end Go.Proofs.YtmooldhpiopcgaaGreatDoor
set_option linter.unusedSimpArgs false
set_option linter.unusedVariables false
set_option maxRecDepth 100000
namespace Go.Proofs.YtmooldhpiopcgaaGreatDoor
open Go Go.Vx Cdc
section
variable {w w' : World}
def lw (be : Bool) : Int := if be then 1 else 0
theorem unit_call {s : Sl} {be : Bool} {a b : UInt8} {r : Bs} (hB : By w s (a :: b :: r)) {K : Int → World → Prop} (hK : ∀ w', Ext w w' → K ((un be a b : Nat) : Int) w') :
    callT Tryz.prog 280 #[.agg #[.int .i64 (lw be)], .slice s.a s.len s.cap] (.one (.one (.int .i64))) K w := by
  refine F280_calls (a0 := (lw be, ())) ?_
  unfold F280
  have ha := a.toNat_lt
  have hb := b.toNat_lt
  refine newO_r fun b1 w1 e1 n1 _ _ => drew_r fun w2 e2 _ => ?_
  have n2 := e2.ext_get n1
  have hB2 : By w2 s (a :: b :: r) := hB.ext (e1.trans e2)
  refine ld_r n2 (x := lw be) rfl ?_
  have bits : ∀ x y : UInt8, IntKind.wrap .i64 ((BitVec.toNat (BitVec.ofInt (IntKind.bits .i64) (IntKind.wrap .i64 (x.toNat : Int)) ||| BitVec.ofInt (IntKind.bits .i64) (IntKind.wrap .i64 ((IntKind.wrap .i64 (y.toNat : Int)) * 2 ^ (min (Int.toNat (8 : Int)) (IntKind.bits .i64))))) : Nat) : Int) = ((x.toNat + y.toNat * 256 : Nat) : Int) := by
    intro x y
    have hx := x.toNat_lt
    have hy := y.toNat_lt
    have e : ((2 : Int) ^ (min (Int.toNat (8 : Int)) (IntKind.bits .i64))) = 2 ^ 8 := rfl
    rw [e, wrap64 (a := (x.toNat : Int)) (by omega) (by omega), wrap64 (a := (y.toNat : Int)) (by omega) (by omega), wrap64 (a := (y.toNat : Int) * 2 ^ 8) (by omega) (by omega)]
    have h := or_shift' (b := IntKind.bits .i64) (k := 8) (a := (y.toNat : Int)) (c := (x.toNat : Int)) (by omega) (by omega) (by omega) (by show _ < (2 : Int) ^ 64; omega)
    rw [h, wrap64 (by omega) (by omega)]
    omega
  cases be with
  | false =>
    have e0 : lw false = 0 := rfl
    have e1' : IntKind.wrap .i64 (1 - (0 : Int)) = 1 := by decide
    rw [e0] at n2 ⊢
    refine ix_by hB2 (by decide) (b := a) rfl fun p => ld_r n2 (x := (0 : Int)) rfl ?_
    rw [e1']
    refine ix_by hB2 (by decide) (b := b) rfl fun p => chk_r (by decide) ?_
    rw [bits]
    exact hK w2 (e1.trans e2)
  | true =>
    have e0 : lw true = 1 := rfl
    have e1' : IntKind.wrap .i64 (1 - (1 : Int)) = 0 := by decide
    rw [e0] at n2 ⊢
    refine ix_by hB2 (by decide) (b := b) rfl fun p => ld_r n2 (x := (1 : Int)) rfl ?_
    rw [e1']
    refine ix_by hB2 (by decide) (b := a) rfl fun p => chk_r (by decide) ?_
    rw [bits]
    exact hK w2 (e1.trans e2)
theorem high_call {u : Nat} (hu : u < 65536) {K : Bool → World → Prop} (hK : K (decide (u / 1024 = 54)) w) : callT Tryz.prog 281 #[.int .i64 (u : Int)] (.one (.one .bool)) K w := by
  refine F281_calls ?_
  unfold F281
  have h := and_hi (a := (u : Int)) (m := 1023) (by omega) (by omega) rfl
  have e : (((BitVec.toNat (BitVec.ofInt (IntKind.bits .i64) (u : Int) &&& ~~~(BitVec.ofInt (IntKind.bits .i64) (1023 : Int))) : Nat) : Int)) = (u : Int) / 1024 * 1024 := h
  rw [e, wrap64 (by omega) (by omega)]
  have : ((u : Int) / 1024 * 1024 == (55296 : Int)) = decide (u / 1024 = 54) := by
    rw [Bool.eq_iff_iff]; simp only [beq_iff_eq, decide_eq_true_eq]; omega
  rw [this]; exact hK
theorem low_call {u : Nat} (hu : u < 65536) {K : Bool → World → Prop} (hK : K (decide (u / 1024 = 55)) w) : callT Tryz.prog 282 #[.int .i64 (u : Int)] (.one (.one .bool)) K w := by
  refine F282_calls ?_
  unfold F282
  have h := and_hi (a := (u : Int)) (m := 1023) (by omega) (by omega) rfl
  have e : (((BitVec.toNat (BitVec.ofInt (IntKind.bits .i64) (u : Int) &&& ~~~(BitVec.ofInt (IntKind.bits .i64) (1023 : Int))) : Nat) : Int)) = (u : Int) / 1024 * 1024 := h
  rw [e, wrap64 (by omega) (by omega)]
  have : ((u : Int) / 1024 * 1024 == (56320 : Int)) = decide (u / 1024 = 55) := by
    rw [Bool.eq_iff_iff]; simp only [beq_iff_eq, decide_eq_true_eq]; omega
  rw [this]; exact hK
theorem un_lt (be : Bool) (a b : UInt8) : un be a b < 65536 := by
  have ha := a.toNat_lt
  have hb := b.toNat_lt
  unfold un; split <;> omega
theorem first16_call {s : Sl} {be : Bool} {b : UInt8} {r : Bs} (hB : By w s (b :: r)) {K : Int × Int × Unit → World → Prop} (hK : ∀ w', Ext w w' → K ((nx16 be (b :: r)).1, ((nx16 be (b :: r)).2 : Nat), ()) w') :
    callT Tryz.prog 275 #[.agg #[.int .i64 (lw be)], .slice s.a s.len s.cap] (.tup [(.one (.int .i64)), (.one (.int .i64))]) K w := by
  refine F275_calls (a0 := (lw be, ())) ?_
  unfold F275
  have hlen : r.length + 1 = s.len := hB.len
  have hcap := hB.le
  have hb := b.toNat_lt
  refine newO_r fun b1 w1 e1 n1 _ _ => ?_
  have hB1 : By w1 s (b :: r) := hB.ext e1
  cases r with
  | nil =>
    have hl : s.len = 1 := by simpa using hlen.symm
    refine sif_r (fun _ => ?_) (fun h => by simp [hl] at h)
    refine ix_by hB1 (by decide) (b := b) rfl fun p => ?_
    rw [wrap64 (a := (b.toNat : Int)) (by omega) (by omega), wrap64 (by omega) (by omega)]
    exact hK w1 e1
  | cons c r =>
    have hl2 : r.length + 2 = s.len := by simpa using hlen
    refine sif_r (fun h => ?_) (fun _ => ?_)
    · simp only [beq_iff_eq] at h; omega
    refine lds_r n1 (x := (lw be, ())) (fun i v hv => by rw [Nat.zero_add, ← Array.getElem?_toList]; exact hv) (unit_call hB1 fun w2 e2 => ?_)
    have hB2 := hB1.ext e2
    have hu := un_lt be b c
    have n2 := e2.ext_get n1
    have short : ¬ (un be b c / 1024 = 54 ∧ ∃ d e r', r = d :: e :: r' ∧ un be d e / 1024 = 55) → nx16 be (b :: c :: r) = (((un be b c : Nat) : Int), 2) := by
      intro h
      simp only [nx16]
      split
      · rename_i h1
        split
        · rename_i d e r'
          split
          · rename_i h2; exact absurd ⟨h1, d, e, r', rfl, h2⟩ h
          · rfl
        · rfl
      · rfl
    refine join_r (fun _ w' => Ext w w' ∧ ¬ (un be b c / 1024 = 54 ∧ ∃ d e r', r = d :: e :: r' ∧ un be d e / 1024 = 55)) ?_ ?_
    · refine join_r (fun x w' => x = (decide (un be b c / 1024 = 54 ∧ 4 ≤ s.len), ()) ∧ w2 = w') ?_ ?_
      · refine high_call hu (sif_r (fun h => ?_) (fun h => ?_))
        · simp only [decide_eq_true_eq] at h
          refine ⟨tupb ?_, rfl⟩
          simp only [decide_eq_true_eq]; omega
        · simp only [decide_eq_false_iff_not] at h
          exact ⟨by rw [decide_eq_false (by omega)], rfl⟩
      · rintro _ w' ⟨rfl, rfl⟩
        refine sif_r (fun h => ?_) (fun h => ?_)
        · simp only [decide_eq_true_eq] at h
          obtain ⟨d, e, r', rfl⟩ : ∃ d e r', r = d :: e :: r' := by
            match r, hl2 with
            | [], hl2 => simp at hl2; omega
            | [_], hl2 => simp at hl2; omega
            | d :: e :: r', _ => exact ⟨d, e, r', rfl⟩
          refine drew_r fun w3 e3 _ => ?_
          have n3 := e3.ext_get n2
          have hB3 := hB2.ext e3
          refine lds_r n3 (x := (lw be, ())) (fun i v hv => by rw [Nat.zero_add, ← Array.getElem?_toList]; exact hv) ?_
          refine slc_by hB3 (by decide) (by omega) (by omega) (by omega) (by omega) fun s' hs' hl' _ => ?_
          have hR : ((b :: c :: d :: e :: r').drop (Int.toNat 2)).take (((s.len : Nat) : Int).toNat - Int.toNat 2) = d :: e :: r' := by
            have : ((s.len : Nat) : Int).toNat - Int.toNat 2 = (d :: e :: r').length := by simp at hl2 ⊢; omega
            rw [this]
            show (d :: e :: r').take _ = _
            rw [List.take_length]
          rw [hR] at hs'
          refine unit_call hs' fun w4 e4 => low_call (un_lt be d e) ?_
          have e04 := (e1.trans e2).trans (e3.trans e4)
          refine sif_r (fun h5 => chk_r (by decide) ?_) (fun h5 => ?_)
          · simp only [decide_eq_true_eq] at h5
            have hv := un_lt be d e
            have g1 := and_lo (b := IntKind.bits .i64) (k := 10) (a := ((un be b c : Nat) : Int)) (m := 1023) (by omega) (by show _ < (2 : Int) ^ 64; omega) rfl (by decide)
            have g2 := and_lo (b := IntKind.bits .i64) (k := 10) (a := ((un be d e : Nat) : Int)) (m := 1023) (by omega) (by show _ < (2 : Int) ^ 64; omega) rfl (by decide)
            have ep : ((2 : Int) ^ (min (Int.toNat (10 : Int)) (IntKind.bits .i64))) = 2 ^ 10 := rfl
            rw [g1, g2, ep, wrap64 (a := ((un be b c : Nat) : Int) % 2 ^ 10) (by omega) (by omega), wrap64 (a := ((un be d e : Nat) : Int) % 2 ^ 10) (by omega) (by omega),
              wrap64 (a := ((un be b c : Nat) : Int) % 2 ^ 10 * 2 ^ 10) (by omega) (by omega), wrap64 (a := 65536 + ((un be b c : Nat) : Int) % 2 ^ 10 * 2 ^ 10) (by omega) (by omega), wrap64 (by omega) (by omega)]
            have := hK w4 e04
            simp only [nx16, if_pos h.1, if_pos h5] at this
            have e' : 65536 + ((un be b c : Nat) : Int) % 2 ^ 10 * 2 ^ 10 + ((un be d e : Nat) : Int) % 2 ^ 10 = 65536 + ((un be b c % 1024 * 1024 + un be d e % 1024 : Nat) : Int) := by omega
            rw [e']
            exact this
          · simp only [decide_eq_false_iff_not] at h5
            refine ⟨e04, ?_⟩
            rintro ⟨_, d', e', r'', hr, h6⟩
            cases hr
            exact h5 h6
        · simp only [decide_eq_false_iff_not] at h
          refine ⟨e1.trans e2, ?_⟩
          rintro ⟨h6, d', e', r'', rfl, _⟩
          simp at hl2
          omega
    · rintro _ w' ⟨hw, hno⟩
      have := hK w' hw
      rw [short hno] at this
      exact this
theorem first1_call {s : Sl} {b : UInt8} {r : Bs} (hB : By w s (b :: r)) {K : Int × Int × Unit → World → Prop} (hK : ∀ w', Ext w w' → K ((nx1 (b :: r)).1, ((nx1 (b :: r)).2 : Nat), ()) w') :
    callT Tryz.prog 284 #[.agg #[], .slice s.a s.len s.cap] (.tup [(.one (.int .i64)), (.one (.int .i64))]) K w := by
  refine F284_calls (a0 := ()) ?_
  unfold F284
  have hb := b.toNat_lt
  refine newO_r fun _ w1 e1 _ _ _ => ?_
  have hB1 : By w1 s (b :: r) := hB.ext e1
  refine ix_by hB1 (by decide) (b := b) rfl fun p => ?_
  rw [wrap64 (by omega) (by omega)]
  exact hK w1 e1
def coder : Enc → Value
  | .u8 => .iface 180 (.agg #[])
  | .le => .iface 263 (.agg #[.int .i64 0])
  | .be => .iface 263 (.agg #[.int .i64 1])
  | .l1 => .iface 264 (.agg #[])
theorem of_call {e : Enc} {K : Value → World → Prop} (hK : K (coder e) w) : callT Tryz.prog 126 #[.int .i64 e.num] (.one (.one .any)) K w := by
  refine F126_calls ?_
  unfold F126
  cases e with
  | u8 => exact sif_r (fun _ => hK) (fun h => by cases h)
  | le => exact sif_r (fun h => by cases h) (fun _ => sif_r (fun _ => hK) (fun h => by cases h))
  | be => exact sif_r (fun h => by cases h) (fun _ => sif_r (fun h => by cases h) (fun _ => sif_r (fun _ => hK) (fun h => by cases h)))
  | l1 => exact sif_r (fun h => by cases h) (fun _ => sif_r (fun h => by cases h) (fun _ => sif_r (fun h => by cases h) (fun _ => sif_r (fun _ => hK) (fun h => by cases h))))
theorem coder_iface (e : Enc) : ∃ t v, coder e = .iface t v := by cases e <;> exact ⟨_, _, rfl⟩
theorem coder_ok (e : Enc) : methOk Tryz.prog (coder e) "copyist/codec.first" := by
  cases e
  · exact ⟨_, _, rfl, fun w => by kernel_rfl⟩
  · exact ⟨_, _, rfl, fun w => by kernel_rfl⟩
  · exact ⟨_, _, rfl, fun w => by kernel_rfl⟩
  · exact ⟨_, _, rfl, fun w => by kernel_rfl⟩
theorem first_x {e : Enc} {s : Sl} {l : Bs} (hB : By w s l) (hl : l ≠ []) {K : Int × Int × Unit → World → Prop} (hK : ∀ w', Ext w w' → K ((nx e l).1, ((nx e l).2 : Nat), ()) w') :
    callX Tryz.prog (invoke (.fn (.method "copyist/codec.first") #[]) (#[coder e] ++ #[.slice s.a s.len s.cap])) (.tup [(.one (.int .i64)), (.one (.int .i64))]) K w := by
  cases l with
  | nil => exact absurd rfl hl
  | cons b r =>
    cases e with
    | u8 => exact meth_x (f := 95) (v' := .agg #[]) (fun w => by kernel_rfl) (by kernel_rfl) (first8_call hB hK)
    | le => exact meth_x (f := 275) (v' := .agg #[.int .i64 (lw false)]) (fun w => by kernel_rfl) (by kernel_rfl) (first16_call hB hK)
    | be => exact meth_x (f := 275) (v' := .agg #[.int .i64 (lw true)]) (fun w => by kernel_rfl) (by kernel_rfl) (first16_call hB hK)
    | l1 => exact meth_x (f := 284) (v' := .agg #[]) (fun w => by kernel_rfl) (by kernel_rfl) (first1_call hB hK)
theorem next_call {e : Enc} {s : Sl} {l : Bs} (hB : By w s l) {n : Nat} (hn : n < l.length) {K : Int × Int × Unit → World → Prop} (hK : ∀ w', Ext w w' → K ((nx e (l.drop n)).1, ((nx e (l.drop n)).2 : Nat), ()) w') :
    callT Tryz.prog 84 #[.int .i64 e.num, .slice s.a s.len s.cap, .int .i64 (n : Int)] (.tup [(.one (.int .i64)), (.one (.int .i64))]) K w := by
  refine F84_calls ?_
  unfold F84
  have hlen := hB.len
  have hcap := hB.le
  refine of_call ?_
  refine join_r (fun x w' => x = (false, ()) ∧ w = w') ?_ ?_
  · obtain ⟨t, v, hc⟩ := coder_iface e
    rw [hc]
    refine rdB_nil ?_ ⟨_, Tryz.underlying204⟩
    refine sif_r (fun h => by cases h) (fun _ => sif_r (fun h => ?_) (fun _ => ?_))
    · simp only [decide_eq_true_eq] at h; omega
    · exact ⟨by rw [decide_eq_false (by omega)], rfl⟩
  rintro _ w' ⟨rfl, rfl⟩
  refine sif_r (fun h => by cases h) (fun _ => drew_r fun w1 e1 _ => ?_)
  have hB1 := hB.ext e1
  refine slc_by hB1 (by omega) (by omega) (by omega) (by omega) (by omega) fun s' hs' hl' _ => chk_r (coder_ok e) ?_
  have hR : (l.drop (n : Int).toNat).take (((s.len : Nat) : Int).toNat - (n : Int).toNat) = l.drop n := by
    have : ((s.len : Nat) : Int).toNat - (n : Int).toNat = (l.drop n).length := by rw [List.length_drop]; omega
    rw [this, Int.toNat_natCast, List.take_length]
  rw [hR] at hs'
  refine first_x hs' (fun h => ?_) fun w2 e2 => hK w2 (e1.trans e2)
  have := congrArg List.length h
  rw [List.length_drop, List.length_nil] at this
  omega
end
end Go.Proofs.YtmooldhpiopcgaaGreatDoor
set_option linter.unusedSimpArgs false
set_option linter.unusedVariables false
namespace Go.Proofs.YtmooldhpiopcgaaGreatDoor
namespace Cdc
def sz8 (a : Int) : Nat := if a < -256 ∨ (-129 < a ∧ a < 0) ∨ 1114111 < a ∨ (55296 ≤ a ∧ a ≤ 57343) then 0 else if a < 128 then 1 else if a < 2048 then 2 else if a < 65536 then 3 else 4
def sz16 (a : Int) : Nat := if a < -256 ∨ 1114111 < a then 0 else if a < 0 then 1 else if a < 65536 then 2 else 4
def sz1 (a : Int) : Nat := if a < 0 ∨ 255 < a then 0 else 1
def sz : Enc → Int → Nat
  | .u8, a => sz8 a
  | .le, a => sz16 a
  | .be, a => sz16 a
  | .l1, a => sz1 a
def cts : Nat → Nat → Bs
  | 0, _ => []
  | k + 1, a => UInt8.ofNat (128 + a / 64 ^ k % 64) :: cts k a
def mk8 (n : Nat) : Nat := if n = 2 then 192 else if n = 3 then 224 else 240
def pt8 (a : Int) : Bs := if a < 0 then [UInt8.ofNat (-1 - a).toNat] else if sz8 a = 1 then [UInt8.ofNat a.toNat] else UInt8.ofNat (mk8 (sz8 a) + a.toNat / 64 ^ (sz8 a - 1)) :: cts (sz8 a - 1) a.toNat
def uni (be : Bool) (u : Nat) : Bs := if be then [UInt8.ofNat (u / 256), UInt8.ofNat u] else [UInt8.ofNat u, UInt8.ofNat (u / 256)]
end Cdc
end Go.Proofs.YtmooldhpiopcgaaGreatDoor
set_option linter.unusedSimpArgs false
set_option linter.unusedVariables false
set_option maxRecDepth 100000
namespace Go.Proofs.YtmooldhpiopcgaaGreatDoor
open Go Go.Vx Cdc
section
variable {w w' : World}
theorem EBy : ElemOk Tryz.prog 30 5 1 1 := ElemOk.of (z := .int .u8 0) i30_ok i5_ok rfl rfl rfl (by decide)
theorem uBy : Tryz.prog.underlying 30 = some (.slice 5) := EBy.ts_
theorem app1 {B : Nat} {s : Sl} {l : Bs} {c : UInt8} {v : Int} {K : Sl → World → Prop} (hv : v = (c.toNat : Int)) (ho : SlOwn w B s 5 1 (bv l)) (hr : s.len < 2 ^ 44) (hB : B ≤ w.heap.size)
    (hK : ∀ s' w', SlOwn w' B s' 5 1 (bv (l ++ [c])) → s'.len = s.len + 1 → Upd s.blk w w' → (∀ k, s'.blk k → s.blk k ∨ w.heap.size ≤ k) → K s' w') :
    newO (.cells #[.int .u8 v] 5) (fun b => rawT Tryz.prog (.one (.one .sl)) (Builtin.append_ #[30, 30] 30 #[.slice s.a s.len s.cap, .slice (some (at0 b)) 1 1]) K) w := by
  subst hv
  refine newO_r fun b w1 e1 n1 _ _ => ?_
  refine append_r (x := ⟨some (at0 b), 1, 1⟩) EBy uBy (ho.ext e1) (SlIn.of_box (n := 1) (sz := 1) n1 rfl) (fun v hv => by simp at hv; subst hv; rfl) (by dsimp only; omega) (Nat.le_trans hB e1.size) fun s' w2 o2 hl u2 hb => ?_
  refine hK s' w2 ?_ hl ((Upd.of_ext e1).trans u2) fun k hk => (hb k hk).imp id (Nat.le_trans e1.size)
  simpa [bv] using o2
end
end Go.Proofs.YtmooldhpiopcgaaGreatDoor
set_option linter.unusedSimpArgs false
set_option linter.unusedVariables false
set_option maxRecDepth 100000
namespace Go.Proofs.YtmooldhpiopcgaaGreatDoor
open Go Go.Vx Cdc Trx
section
variable {w w' : World} {S : Nat → Prop}
theorem single_call {a : Int} {n : Nat} {K : Cells.T c144 → World → Prop} (hK : ∀ w', Ext w w' → K (smT (one1 a n)) w') :
    callT Tryz.prog 128 #[.int .i64 a, .int .i64 (n : Int)] (.one (.agg c144)) K w := by
  refine F128_calls ?_
  unfold F128
  refine (St.start w).newO fun b1 w1 S1 e1 => S1.newO fun b2 w2 S2 e2 => S2.aggSt 0 rfl rfl rfl rfl fun w3 S3 u3 => ?_
  let z1 : Nat × Obj := (b1, .cells #[(.int .i64 (0 : Int)), (.int .i64 (0 : Int)), (.int .i64 (0 : Int)), (.bool false), (.bool false)] 144 (0, 0))
  refine join_r (fun _ w' => St (fun _ => False) w w' [(b2, .cells (Cells.vals c144 (smT (one1 a n))).toArray 144 (0, 0)), z1]) ?_ ?_
  · refine join_r (fun x w' => x = ((a == 10 || a == 13), ()) ∧ w3 = w') (S3.ld 0 rfl (x := (a == 10)) rfl (sif_r (fun h => ⟨by rw [h]; rfl, rfl⟩) (fun h => S3.ld 0 rfl (x := (a == 13)) rfl ⟨by rw [h]; rfl, rfl⟩))) ?_
    rintro _ w' ⟨rfl, rfl⟩
    have e0 : (one1 a n).breaks = if (a == 10 || a == 13) = true then 1 else 0 := by
      show (if a = 10 ∨ a = 13 then 1 else 0) = _
      simp
    refine sif_r (fun h => S3.stC 0 rfl (by show 2 < 5; decide) fun w4 S4 u4 => ?_) (fun h => ?_)
    · have : smT (one1 a n) = ((1 : Int), (n : Int), (1 : Int), (a == 10), (a == 13), ()) := by
        unfold smT; rw [e0, if_pos h]; rfl
      rw [this]; exact S4
    · have : smT (one1 a n) = ((1 : Int), (n : Int), (0 : Int), (a == 10), (a == 13), ()) := by
        unfold smT
        have h' : (a == 10 || a == 13) = false := h
        rw [e0, h']; rfl
      rw [this]; exact S3
  · intro _ w5 S5
    exact S5.lds 0 (smT (one1 a n)) rfl (S5.aggSt 1 rfl rfl rfl rfl fun w6 S6 u6 => S6.lds 1 (smT (one1 a n)) rfl (hK w6 S6.upd))
def mkPc (e : Enc) (s : Sl) (tag : Int) (l : Bs) : Pc := ⟨s, tag, msr (ats e l)⟩
theorem newpart_call {e : Enc} {s : Sl} {l : Bs} {tag : Int} (hB : By w s l) (hl : l.length < 2 ^ 59) {K : Cells.T c146 → World → Prop} (hK : ∀ w', Ext w w' → K (pcT (mkPc e s tag l)) w') :
    callT Tryz.prog 85 #[.int .i64 e.num, .slice s.a s.len s.cap, .int .i64 tag] (.one (.agg c146)) K w := by
  refine F85_calls ?_
  unfold F85
  have hlen := hB.len
  let z1 : Nat × Obj := (0, .cells #[(.slice none 0 0), (.int .i64 (0 : Int)), (.int .i64 (0 : Int)), (.int .i64 (0 : Int)), (.int .i64 (0 : Int)), (.bool false), (.bool false)] 146 (0, 0))
  refine (St.start w).newO fun b1 w1 S1 e1 => S1.newO fun b2 w2 S2 e2 => S2.aggSt 0 rfl rfl rfl rfl fun w3 S3 u3 => ?_
  refine join_r (fun _ w' => St (fun _ => False) w w' [(b2, .cells (Cells.vals c146 (pcT (mkPc e s tag l))).toArray 146 (0, 0)), (b1, z1.2)]) ?_ ?_
  · refine sloop_r (fun x w' => ∃ j, x = ((szs ((ats e l).take j) : Int), ()) ∧ St (fun _ => False) w w' [(b2, .cells (Cells.vals c146 (pcT ⟨s, tag, msr ((ats e l).take j)⟩)).toArray 146 (0, 0)), (b1, z1.2)]) (fun x _ => ((l.length : Int) - x.1).toNat) ⟨0, rfl, S3⟩ ?_
    rintro _ w5 ⟨j, rfl, S5⟩
    have okj := msr_ok ((ats_posd e l).take j)
    have byj := msr_bytes ((ats_posd e l).take j)
    refine sif_r (fun h => ?_) (fun h => ?_)
    · simp only [decide_eq_true_eq] at h
      obtain ⟨a, n, ha, hn, ht, hs, h1, hle⟩ := pos_step (e := e) (l := l) (j := j) (by omega)
      refine next_call (hB.ext S5.upd) (by omega) fun w6 e6 => ?_
      rw [hn]
      have S6 := S5.ext e6
      refine S6.drew fun w7 S7 e7 _ => ?_
      have h7 : ∀ {W : World} {t : Nat}, St (fun _ => False) w W [(b2, .cells (Cells.vals c146 (pcT ⟨s, tag, msr ((ats e l).take j)⟩)).toArray 146 (0, 0)), (b1, z1.2)] → ∀ i v, (Cells.vals c144 (smT (msr ((ats e l).take j))))[i]? = some v → ((Cells.vals c146 (pcT ⟨s, tag, msr ((ats e l).take j)⟩)).toArray)[2 + i]? = some v := by
        intro W t _ i v hv
        match i, hv with
        | 0, hv => exact hv
        | 1, hv => exact hv
        | 2, hv => exact hv
        | 3, hv => exact hv
        | 4, hv => exact hv
        | i + 5, hv => cases hv
      refine lds_r (S7.at_ 0 rfl) (x := smT (msr ((ats e l).take j))) (h7 (t := 0) S7) (single_call fun w8 e8 => ?_)
      have S8 := S7.ext e8
      refine keep_r ?_ (add_call okj (one1_ok a h1) (by rw [byj]; show szs ((ats e l).take j) + n < 2 ^ 60; omega) fun w9 e9 => ?_)
      · exact cellsAt_of _ 0 fun i v hv => cell_of (S8.at_ 0 rfl) (by rw [Nat.zero_add]; exact h7 (t := 0) S8 i v hv)
      have S9 := S8.ext e9
      rw [← msr_snoc ((ats_posd e l).take j) h1, ← ht]
      refine S9.aggAt 0 rfl rfl rfl (by show 2 + 5 ≤ 7; decide) fun w10 S10 => ?_
      have ew : IntKind.wrap .i64 ((szs ((ats e l).take j) : Int) + (n : Int)) = ((szs ((ats e l).take (j + 1)) : Nat) : Int) := by
        rw [wrap64 (by omega) (by omega)]; omega
      refine ⟨⟨j + 1, by dsimp only; rw [ew], S10⟩, ?_⟩
      dsimp only
      rw [ew]; omega
    · simp only [decide_eq_false_iff_not] at h
      rw [pos_end (e := e) (l := l) (j := j) (by omega)] at S5
      exact S5
  · intro _ w5 S5
    exact S5.lds 0 (pcT (mkPc e s tag l)) rfl (S5.aggSt 1 rfl rfl rfl rfl fun w6 S6 u6 => S6.lds 1 (pcT (mkPc e s tag l)) rfl (hK w6 S6.upd))
end
end Go.Proofs.YtmooldhpiopcgaaGreatDoor
set_option linter.unusedSimpArgs false
set_option linter.unusedVariables false
set_option maxRecDepth 100000
namespace Go.Proofs.YtmooldhpiopcgaaGreatDoor
open Go Go.Vx Cdc Trx
section
variable {w w' : World} {S : Nat → Prop}
def top (s : Sl) : Nat := match s.a with | some p => p.off + s.len | none => 0
theorem cut_blk {s : Sl} {l h m : Int} {k : Nat} (hk : (Sl.cut s.a l h m 1).blk k) : s.blk k := by
  obtain ⟨p, hp, rfl⟩ := hk
  have hp : (if m.toNat = l.toNat then s.a else s.a.map (·.add (scaled l.toNat 1))) = some p := hp
  split at hp
  · exact ⟨p, hp, rfl⟩
  · cases ha : s.a with
    | none => rw [ha] at hp; cases hp
    | some q =>
      rw [ha] at hp; cases hp
      exact ⟨q, ha, by unfold Addr.add; split <;> rfl⟩
theorem By.cut {s : Sl} {b : Bs} (hB : By w s b) {l h m : Int} (h0 : 0 ≤ l) (h1 : l ≤ h) (h2 : h ≤ s.len) (h3 : h ≤ m) (h4 : m ≤ s.cap) : By w (Sl.cut s.a l h m 1) ((b.drop l.toNat).take (h.toNat - l.toNat)) := by
  have := slc_by (K := fun s' w' => By w s' ((b.drop l.toNat).take (h.toNat - l.toNat))) hB h0 h1 h2 h3 h4 fun s' h _ _ => h
  obtain ⟨_, _, h⟩ := this
  exact h
end
end Go.Proofs.YtmooldhpiopcgaaGreatDoor
set_option linter.unusedSimpArgs false
set_option linter.unusedVariables false
set_option maxRecDepth 100000
namespace Go.Proofs.YtmooldhpiopcgaaGreatDoor
open Go Go.Vx Cdc Trx
section
variable {w w' : World} {S : Nat → Prop}
abbrev Parts := List (Int × Bs)
def aOf (e : Enc) (M : Parts) : As := M.flatMap fun x => ats e x.2
theorem aOf_cons (e : Enc) (x : Int × Bs) (M : Parts) : aOf e (x :: M) = ats e x.2 ++ aOf e M := rfl
theorem aOf_app (e : Enc) (M N : Parts) : aOf e (M ++ N) = aOf e M ++ aOf e N := by simp [aOf]
theorem aOf_posd (e : Enc) (M : Parts) : Posd (aOf e M) := fun x hx => by
  obtain ⟨y, _, hy⟩ := List.mem_flatMap.1 hx
  exact ats_posd e _ x hy
structure PcIn (w : World) (e : Enc) (x : Pc) (y : Int × Bs) : Prop where
  by_ : By w x.bytes y.2
  sm : x.sm = msr (ats e y.2)
  tag : x.tag = y.1
  ne : y.2 ≠ []
  lo : -1 ≤ y.1
  hi : y.1 + y.2.length ≤ 2 ^ 40
def Its (w : World) (e : Enc) : List Pc → Parts → Prop
  | [], [] => True
  | x :: l, y :: M => PcIn w e x y ∧ Its w e l M
  | _, _ => False
theorem PcIn.upd {e : Enc} {x : Pc} {y : Int × Bs} (h : PcIn w e x y) (u : Upd S w w') (hS : ∀ k, x.bytes.blk k → ¬ S k) : PcIn w' e x y := ⟨h.by_.upd u hS, h.sm, h.tag, h.ne, h.lo, h.hi⟩
theorem Its.upd {e : Enc} : ∀ {l : List Pc} {M : Parts}, Its w e l M → Upd S w w' → (∀ x ∈ l, ∀ k, x.bytes.blk k → ¬ S k) → Its w' e l M
  | [], [], _, _, _ => trivial
  | x :: l, y :: M, h, u, hS => ⟨h.1.upd u (hS x List.mem_cons_self), h.2.upd u fun z hz => hS z (List.mem_cons_of_mem _ hz)⟩
theorem Its.ext {e : Enc} {l : List Pc} {M : Parts} (h : Its w e l M) (x : Ext w w') : Its w' e l M := h.upd x fun _ _ _ _ => id
theorem Its.len {e : Enc} : ∀ {l : List Pc} {M : Parts}, Its w e l M → l.length = M.length
  | [], [], _ => rfl
  | x :: l, y :: M, h => by simp [h.2.len]
theorem Its.app {e : Enc} : ∀ {l : List Pc} {M : Parts} {l' : List Pc} {M' : Parts}, Its w e l M → Its w e l' M' → Its w e (l ++ l') (M ++ M')
  | [], [], _, _, _, h => h
  | x :: l, y :: M, _, _, h, h' => ⟨h.1, h.2.app h'⟩
theorem Its.get {e : Enc} : ∀ {l : List Pc} {M : Parts} (n : Nat) {x : Pc}, Its w e l M → l[n]? = some x → ∃ y, M[n]? = some y ∧ PcIn w e x y
  | x :: l, y :: M, 0, z, h, hz => ⟨y, rfl, by cases hz; exact h.1⟩
  | x :: l, y :: M, n + 1, z, h, hz => h.2.get n (by simpa using hz)
theorem Its.ok {e : Enc} : ∀ {l : List Pc} {M : Parts}, Its w e l M → AllOk l
  | [], [], _ => fun _ h => by cases h
  | x :: l, y :: M, h => AllOk.cons (by rw [h.1.sm]; exact msr_ok (ats_posd e _)) h.2.ok
theorem Its.tot {e : Enc} : ∀ {l : List Pc} {M : Parts}, Its w e l M → tot l = msr (aOf e M)
  | [], [], _ => rfl
  | x :: l, y :: M, h => by
    show x.sm.add (Trx.tot l) = _
    rw [h.1.sm, h.2.tot, aOf_cons, msr_append (ats_posd e _) (aOf_posd e M)]
theorem Its.fine {e : Enc} {l : List Pc} {M : Parts} (h : Its w e l M) (hs : szs (aOf e M) < 2 ^ 59) : Fine l := by
  refine ⟨h.ok, ?_, by rw [h.tot, msr_bytes (aOf_posd e M)]; omega⟩
  have key : ∀ (l : List Pc) (M : Parts), Its w e l M → l.length ≤ szs (aOf e M) := by
    intro l
    induction l with
    | nil => intro M _; simp
    | cons x l ih =>
      intro M h
      cases M with
      | nil => exact h.elim
      | cons y M =>
        have h1 := ih M h.2
        have h2 := szs_all e y.2
        have h3 := List.length_pos_iff.2 h.1.ne
        rw [aOf_cons, szs_append, List.length_cons]; omega
  have := key l M h
  omega
structure Txt (w : World) (p : Nat) (e : Enc) (lim na : Nat) (O : Nat → Prop) (M : Parts) : Prop where
  ex : ∃ (t : Tr) (a : Sl) (ab : Bs), w.heap[p]? = some (.cells #[.int .i64 e.num, .int .i64 (lim : Int), .pointer t.ptr, .slice a.a a.len a.cap] 141 (0, 0)) ∧ t.In w ∧ Its w e t.items M ∧ SlOwn w 0 a 5 1 (bv ab) ∧
    (∀ x ∈ t.items, ∀ k, x.bytes.blk k → a.blk k → top x.bytes ≤ top a) ∧ (∀ x ∈ t.items, ∀ k, x.bytes.blk k → O k) ∧ (∀ k, a.blk k → O k) ∧ a.len ≤ na
  lims : lim ≤ 65536
  sz : szs (aOf e M) ≤ 1048576
  op : O p
  own : ∀ k, O k → k < w.heap.size
variable {p : Nat} {e : Enc} {lim na : Nat} {O : Nat → Prop} {M : Parts}
theorem Txt.upd (h : Txt w p e lim na O M) (u : Upd S w w') (hS : ∀ k, O k → ¬ S k) (hN : NoTy w S 186) : Txt w' p e lim na O M := by
  obtain ⟨t, a, ab, h1, h2, h3, h4, h5, h6, h7, h8⟩ := h.ex
  exact ⟨⟨t, a, ab, u.get h1 (hS p h.op), h2.ty u hN, h3.upd u fun x hx k hk => hS k (h6 x hx k hk), h4.upd u fun k _ hk => hS k (h7 k hk), h5, h6, h7, h8⟩, h.lims, h.sz, h.op, fun k hk => Nat.lt_of_lt_of_le (h.own k hk) u.size⟩
theorem Txt.ext (h : Txt w p e lim na O M) (x : Ext w w') : Txt w' p e lim na O M := h.upd x (fun _ _ => id) fun _ hk => hk.elim
theorem szs_ge : ∀ {l : As}, Posd l → l.length ≤ szs l
  | [], _ => Nat.zero_le _
  | x :: r, h => by rw [szs_cons, List.length_cons]; have := szs_ge h.tail; have := h x List.mem_cons_self; omega
theorem Txt.tree2 (h : Txt w p e lim na O M) : ∃ t : Tr, t.In w ∧ Its w e t.items M ∧ Fine t.items ∧ (∀ {w'} {K : Addr → Cells.T c139 → World → Prop}, Ext w w' → K (at0 p) (t.ptr, ()) w' → nn (some (at0 p)) (fun q => lds c139 (q.add 2) (K q)) w') ∧ ∀ x ∈ t.items, ∀ k, x.bytes.blk k → O k := by
  obtain ⟨t, a, ab, h1, h2, h3, _, _, h6, _⟩ := h.ex
  refine ⟨t, h2, h3, h3.fine (by have := h.sz; have := h.lims; omega), fun {w'} {K} x hK => nn_some ?_, h6⟩
  rw [addr_add]
  refine lds_r (x.ext_get h1) (x := (t.ptr, ())) (fun i v hv => ?_) hK
  match i, hv with
  | 0, hv => exact hv
  | i + 1, hv => cases hv
end
end Go.Proofs.YtmooldhpiopcgaaGreatDoor
set_option linter.unusedSimpArgs false
set_option linter.unusedVariables false
set_option maxRecDepth 100000
namespace Go.Proofs.YtmooldhpiopcgaaGreatDoor
open Go Go.Vx Cdc Trx
section
variable {w w' : World} {S : Nat → Prop} {p : Nat} {e : Enc} {lim na : Nat} {O : Nat → Prop} {M : Parts}
theorem _root_.Go.Vx.Upd.get1 {b k : Nat} {o : Obj} (u : Upd (fun k => k = b) w w') (h : w.heap[k]? = some o) (hn : k ≠ b) : w'.heap[k]? = some o := u.get h hn
theorem fr_none {W : World} {b : Nat} {c : Array Value} {t : TypeId} (h : W.heap[b]? = some (.cells c t (0, 0))) (hp : prot (.cells c t (0, 0)) = false) {W' : World} (u : Upd (fun k => k = b) W W') : Stay W W' :=
  Stay.upd u fun k hk o ho => by subst hk; rw [h] at ho; cases ho; exact hp
structure WAt (w : World) (p : Nat) (e : Enc) (lim na : Nat) (O : Nat → Prop) (M : Parts) (its : List Pc) (b1 b2 b7 b8 N n cnt : Nat) (f : Value) (Inv : Nat → Nat → World → Prop) (c : Nat) (W : World) : Prop where
  inv : Inv N (c - n) W
  lt : c - n < cnt
  txt : Txt W p e lim na O M
  its : Its W e its M
  size : N ≤ W.heap.size
  h1 : W.heap[b1]? = some (.cells #[.pointer (some (at0 p))] 51 (0, 0))
  h2 : W.heap[b2]? = some (.cells #[f] 313 (0, 0))
  h7 : W.heap[b7]? = some (.cells #[.int .i64 ((n - c : Nat) : Int)] 3 (0, 0))
  h8 : W.heap[b8]? = some (.cells #[.int .i64 ((cnt - (c - n) : Nat) : Int)] 3 (0, 0))
end
end Go.Proofs.YtmooldhpiopcgaaGreatDoor
set_option linter.unusedSimpArgs false
set_option linter.unusedVariables false
set_option maxRecDepth 100000
namespace Go.Proofs.YtmooldhpiopcgaaGreatDoor
open Go Go.Vx Cdc Trx
section
variable {w w' : World} {S : Nat → Prop} {p : Nat} {e : Enc} {lim na : Nat} {O : Nat → Prop} {M : Parts}
theorem eParts : ElemOk Tryz.prog 165 146 7 64 := ElemOk.of (z := .agg #[.slice none 0 0, .int .i64 0, .int .i64 0, .int .i64 0, .int .i64 0, .bool false, .bool false]) i165_ok i146_ok rfl rfl rfl (by decide)
def bOf (M : Parts) : Bs := M.flatMap fun x => x.2
theorem bOf_app (M N : Parts) : bOf (M ++ N) = bOf M ++ bOf N := by simp [bOf]
theorem Pc_one (x : Pc) : ∀ v ∈ flat c146 [pcT x], isOne v = true := by
  intro v hv
  rw [flat_one] at hv
  have : v ∈ (Cells.vals c146 (pcT x)) := hv
  revert this
  show v ∈ [_, _, _, _, _, _, _] → _
  intro h
  simp only [List.mem_cons, List.not_mem_nil, or_false] at h
  rcases h with rfl | rfl | rfl | rfl | rfl | rfl | rfl <;> rfl
set_option maxHeartbeats 1000000 in
theorem open_call {s : Sl} {l : Bs} (hB : By w s l) (hl : l.length ≤ lim) (hlim : lim ≤ 65536) {K : Option Addr × Int × Unit → World → Prop}
    (hK : ∀ p O M w', Txt w' p e lim 0 O M → aOf e M = ats e l → bOf M = l → Ext w w' → (∀ k, O k → w.heap.size ≤ k) → K (some (at0 p), 0, ()) w') :
    callT Tryz.prog 48 #[.int .i64 e.num, .slice s.a s.len s.cap, .int .i64 (lim : Int)] (.tup [(.one .ptr), (.one (.int .i64))]) K w := by
  refine F48_calls ?_
  unfold F48
  have hlen := hB.len
  have hen : 1 ≤ e.num ∧ e.num ≤ 4 := by cases e <;> decide
  refine join_r (fun x w' => x = (false, ()) ∧ w = w') (sif_r (fun h => ?_) (fun h => ⟨by rw [decide_eq_false (by omega)], rfl⟩)) ?_
  · simp only [decide_eq_true_eq] at h; omega
  rintro _ _ ⟨rfl, rfl⟩
  refine sif_false (join_r (fun x w' => x = (false, ()) ∧ w = w') (sif_r (fun h => ?_) (fun h => ⟨by rw [decide_eq_false (by omega)], rfl⟩)) ?_)
  · simp only [decide_eq_true_eq] at h; omega
  rintro _ _ ⟨rfl, rfl⟩
  refine sif_false (sif_r (fun h => ?_) (fun _ => ?_))
  · simp only [decide_eq_true_eq, gt_iff_lt] at h; omega
  refine makeSlice_r EBy.ts_ i5_ok (z := .int .u8 0) rfl rfl (by omega) (by show ((s.len : Nat) : Int) * 1 ≤ 2 ^ 48; omega) (by omega) fun b w1 c n1 hc1 _ e1 hb1 => ?_
  rw [Int.toNat_natCast] at hc1 ⊢
  have hc1' : c.size = s.len := by rw [hc1]; show s.len * 1 = _; omega
  refine copy_r (off := 0) EBy.ts_ i5_ok.run_size n1 (by rw [List.length_map]; omega) (hB.ext e1).x (Nat.le_refl _) (bv_one l) fun w2 n2 u2 _ => ?_
  rw [setRow_whole (bv l) c (by rw [List.length_map]; omega)] at n2
  have e2 : Ext w w2 := e1.step u2 fun k hk => by omega
  have hL : By w2 ⟨some (at0 b), s.len, s.len⟩ l := by
    have := SlIn.of_box n2 (n := s.len) (sz := 1) (by simp; omega)
    simpa using this
  refine (St.start w2).newO fun b7 w3 S3 e3 => ?_
  have hb7 := S3.ge 0 rfl
  let Zt : Option Addr → Obj := fun q => .cells #[.int .i64 e.num, .int .i64 (lim : Int), .pointer q, .slice none 0 0] 141 (0, 0)
  let Lp : Nat → Sl → World → Prop := fun j r W => ∃ (its : List Pc) (M : Parts), St (fun _ => False) w2 W [(b7, Zt none)] ∧ SlOwn W w3.heap.size r 146 7 (flat c146 (its.map pcT)) ∧ Its W e its M ∧ aOf e M = (ats e l).take j ∧ bOf M = l.take (szs ((ats e l).take j)) ∧
    (∀ x ∈ its, ∀ k, x.bytes.blk k → k = b) ∧ By W ⟨some (at0 b), s.len, s.len⟩ l ∧ its.length ≤ j ∧ w3.heap.size ≤ W.heap.size
  have hne : ∀ {r : Sl} {its : List Pc} {W : World}, SlOwn W w3.heap.size r 146 7 (flat c146 (its.map pcT)) → its.length = r.len := fun ho => by
    have := SlOwn.lenR (cs := c146) ho (by decide)
    rwa [List.length_map] at this
  refine join_r (fun x W => ∃ j, Lp j x.1 W ∧ (ats e l).take j = ats e l) ?_ ?_
  · refine sloop_r (fun x W => ∃ j, j ≤ (ats e l).length ∧ x.2 = (((szs ((ats e l).take j) : Nat) : Int), ()) ∧ Lp j x.1 W) (fun x _ => ((l.length : Int) - x.2.1).toNat) ⟨0, Nat.zero_le _, rfl, [], [], S3, SlOwn.nil _ _ _ _, trivial, rfl, rfl, (fun _ h => by cases h), hL.ext e3, Nat.le_refl _, Nat.le_refl _⟩ ?_
    rintro ⟨r, _⟩ W4 ⟨j, hj, rfl, its, M, S4, ho, hi, ha, hb, hk, hL4, hil, hW4⟩
    have hsj : szs ((ats e l).take j) ≤ l.length := pos_le j
    dsimp only at ho ⊢
    refine sif_r (fun hc => ?_) (fun hc => ?_)
    · simp only [decide_eq_true_eq] at hc
      have hc' : szs ((ats e l).take j) < l.length := by omega
      refine join_r (fun x W => ∃ q, 1 ≤ q ∧ j + q ≤ (ats e l).length ∧ x = (((szs ((ats e l).take (j + q)) : Nat) : Int), ()) ∧ Ext W4 W) ?_ ?_
      · refine sloop_r (fun x W => ∃ q, j + q ≤ (ats e l).length ∧ q ≤ 128 ∧ x = (((szs ((ats e l).take (j + q)) : Nat) : Int), (q : Int), ()) ∧ Ext W4 W) (fun x _ => ((l.length : Int) - x.1).toNat) ⟨0, by omega, by omega, rfl, Ext.refl W4⟩ ?_
        rintro _ W5 ⟨q, hq, hq2, rfl, x5⟩
        have hsq : szs ((ats e l).take (j + q)) ≤ l.length := pos_le _
        refine join_r (fun x W => x = (decide (szs ((ats e l).take (j + q)) < l.length ∧ q < 128), ()) ∧ W5 = W) ?_ ?_
        · refine sif_r (fun h => ⟨tupb ?_, rfl⟩) (fun h => ⟨tupb ?_, rfl⟩)
          · simp only [decide_eq_true_eq] at h ⊢; omega
          · simp only [decide_eq_false_iff_not, decide_eq_true_eq] at h ⊢
            exact ⟨(fun h => by cases h), fun h => by omega⟩
        rintro _ W6 ⟨rfl, rfl⟩
        refine sif_r (fun h => ?_) (fun h => ?_)
        · simp only [decide_eq_true_eq] at h
          obtain ⟨a, m, hqa, hnx, htk, hss, hm1, hsl⟩ := pos_step (e := e) (l := l) (j := j + q) h.1
          have hql : j + q < (ats e l).length := (List.getElem?_eq_some_iff.1 hqa).1
          refine next_call (hL4.ext x5) h.1 fun W7 x7 => ?_
          rw [hnx]
          have ewa : IntKind.wrap .i64 (((szs ((ats e l).take (j + q)) : Nat) : Int) + (m : Int)) = ((szs ((ats e l).take (j + q + 1)) : Nat) : Int) := by rw [wrap64 (by omega) (by omega)]; omega
          have ewb : IntKind.wrap .i64 ((q : Int) + 1) = ((q + 1 : Nat) : Int) := by rw [wrap64 (by omega) (by omega)]; omega
          refine ⟨⟨q + 1, by omega, by omega, by dsimp only; rw [ewa, ewb]; rfl, x5.trans x7⟩, ?_⟩
          dsimp only
          rw [ewa]; omega
        · refine ⟨q, ?_, hq, rfl, x5⟩
          rcases Nat.eq_zero_or_pos q with h0 | h0
          · subst h0
            have h' : ¬ (szs ((ats e l).take (j + 0)) < l.length ∧ 0 < 128) := fun hh => by rw [decide_eq_true hh] at h; cases h
            exact absurd ⟨hc', by decide⟩ h'
          · exact h0
      · rintro _ W5 ⟨q, hq1, hjq, rfl, x5⟩
        have S5 := S4.ext x5
        have hsq : szs ((ats e l).take (j + q)) ≤ l.length := pos_le _
        have hadd : szs ((ats e l).take (j + q)) = szs ((ats e l).take j) + szs (((ats e l).drop j).take q) := by rw [List.take_add, szs_append]
        have hpq := ((ats_posd e l).drop j).take q
        have hqpos : 1 ≤ szs (((ats e l).drop j).take q) := by
          have := szs_ge hpq
          rw [List.length_take, List.length_drop] at this; omega
        obtain ⟨pb, hpb⟩ : ∃ pb : Bs, pb = (l.drop (szs ((ats e l).take j))).take (szs (((ats e l).drop j).take q)) := ⟨_, rfl⟩
        have hpa : ats e pb = ((ats e l).drop j).take q := by
          have h1 := (ats_cut e j l).2
          have h2 := (ats_cut e q (l.drop (szs ((ats e l).take j)))).1
          rw [h1] at h2
          rw [hpb]; exact h2
        have hpl : pb.length = szs (((ats e l).drop j).take q) := by rw [← hpa, szs_all]
        have hL5 := hL4.ext x5
        have hcut := By.cut hL5 (l := ((szs ((ats e l).take j) : Nat) : Int)) (h := ((szs ((ats e l).take (j + q)) : Nat) : Int)) (m := ((szs ((ats e l).take (j + q)) : Nat) : Int)) (by omega) (by omega) (by show _ ≤ ((s.len : Nat) : Int); omega) (by omega) (by show _ ≤ ((s.len : Nat) : Int); omega)
        have hcb : (l.drop ((szs ((ats e l).take j) : Nat) : Int).toNat).take (((szs ((ats e l).take (j + q)) : Nat) : Int).toNat - ((szs ((ats e l).take j) : Nat) : Int).toNat) = pb := by
          rw [hpb, Int.toNat_natCast, Int.toNat_natCast, hadd, Nat.add_sub_cancel_left]
        rw [hcb] at hcut
        refine chk_r (by omega) (newpart_call hcut (by omega) fun W6 x6 => ?_)
        have S6 := S5.ext x6
        refine S6.newO fun b21 W7 S7 x7 => ?_
        have x47 := (x5.trans x6).trans x7
        have hrl := hne ho
        have hi7 : Its W7 e its M := hi.ext x47
        have hx : PcIn W7 e (mkPc e (Sl.cut (some (at0 b)) ((szs ((ats e l).take j) : Nat) : Int) ((szs ((ats e l).take (j + q)) : Nat) : Int) ((szs ((ats e l).take (j + q)) : Nat) : Int) 1) ((szs ((ats e l).take j) : Nat) : Int) pb) (((szs ((ats e l).take j) : Nat) : Int), pb) :=
          ⟨hcut.ext (x6.trans x7), rfl, rfl, fun h0 => by have h0' : pb = [] := h0; rw [h0'] at hpl; simp at hpl; omega, by show -1 ≤ ((szs ((ats e l).take j) : Nat) : Int); omega, by show ((szs ((ats e l).take j) : Nat) : Int) + (pb.length : Int) ≤ 2 ^ 40; omega⟩
        generalize hpc : mkPc e (Sl.cut (some (at0 b)) ((szs ((ats e l).take j) : Nat) : Int) ((szs ((ats e l).take (j + q)) : Nat) : Int) ((szs ((ats e l).take (j + q)) : Nat) : Int) 1) ((szs ((ats e l).take j) : Nat) : Int) pb = xp at *
        have hxb : ∀ k, xp.bytes.blk k → k = b := by
          rw [← hpc]
          rintro k hk
          obtain ⟨pp, hp1, hp2⟩ := cut_blk (s := ⟨some (at0 b), s.len, s.len⟩) hk
          cases hp1; exact hp2.symm
        have hbox : SlX W7 ⟨some (at0 b21), 1, 1⟩ 7 (flat c146 [pcT xp]) := by
          have := SlIn.of_box (S7.at_ 0 rfl) (n := 1) (sz := 7) rfl
          exact this.x
        refine append_rx eParts eParts.ts_ (x := ⟨some (at0 b21), 1, 1⟩) (ho.ext x47) hbox (Pc_one xp) (by
          show (r.len + 1 + (r.len + 1) / 4 + 512) * 64 ≤ 2 ^ 48
          have := szs_ge (ats_posd e l)
          rw [szs_all] at this
          omega) (by have := x47.size; omega) fun r' W8 o8 l8 u8 k8 => ?_
        have hty : ∀ {t' : TypeId}, 146 ≠ t' → NoTy W7 r.blk t' := fun ht => NoTy.blk (ho.ext x47).in ht
        have st8 : St (fun _ => False) w2 W8 [(b7, Zt none)] := by
          refine S7.tail.fresh u8 (fun k hk => .inr ?_) (fun x hx hk => ?_)
          · have := ho.blk_ge hk; have := e3.size; omega
          · rw [List.mem_singleton.1 hx] at hk
            exact hty (by decide) _ hk _ _ (S7.at_ 1 rfl)
        have e8 : flat c146 (its.map pcT) ++ flat c146 [pcT xp] = flat c146 ((its ++ [xp]).map pcT) := by rw [List.map_append, flat_append]; rfl
        rw [e8] at o8
        have hi8 : Its W8 e (its ++ [xp]) (M ++ [(((szs ((ats e l).take j) : Nat) : Int), pb)]) := by
          have h9 : Its W7 e (its ++ [xp]) (M ++ [(((szs ((ats e l).take j) : Nat) : Int), pb)]) := hi7.app ⟨hx, trivial⟩
          refine h9.upd u8 fun x hx k hk hS => ?_
          obtain ⟨y, hy⟩ : ∃ y, PcIn W7 e x y := by
            obtain ⟨n, hn⟩ := List.getElem?_of_mem hx
            obtain ⟨y, _, hy⟩ := h9.get n hn
            exact ⟨y, hy⟩
          obtain ⟨c2, fr2, hc2⟩ := hy.by_.blk_cells hk
          exact hty (t' := 5) (by decide) k hS _ _ hc2
        refine ⟨⟨j + q, hjq, rfl, its ++ [xp], M ++ [_], st8, o8, hi8, ?_, ?_, ?_, ?_, ?_, ?_⟩, ?_⟩
        · rw [aOf_app, ha, List.take_add]
          show _ ++ aOf e [_] = _
          simp only [aOf, List.flatMap_cons, List.flatMap_nil, List.append_nil]
          rw [hpa]
        · rw [bOf_app, hb, hadd, List.take_add]
          show _ ++ bOf [_] = _
          simp only [bOf, List.flatMap_cons, List.flatMap_nil, List.append_nil]
          rw [hpb]
        · intro x hx k hkk
          rcases List.mem_append.1 hx with hx | hx
          · exact hk x hx k hkk
          · rw [List.mem_singleton.1 hx] at hkk; exact hxb k hkk
        · exact SlIn.ty (hL5.ext (x6.trans x7)) u8 (hty (by decide))
        · rw [List.length_append]; simp; omega
        · have := u8.size; have := x47.size; omega
        · dsimp only
          omega
    · simp only [decide_eq_false_iff_not] at hc
      have := pos_end (e := e) (l := l) (j := j) (by omega)
      exact ⟨j, ⟨its, M, S4, ho, hi, ha, hb, hk, hL4, hil, hW4⟩, this⟩
  · rintro ⟨r, _⟩ W4 ⟨j, ⟨its, M, S4, ho, hi, ha, hb, hk, hL4, hil, hW4⟩, hj⟩
    rw [hj] at ha hb
    have hM : szs (aOf e M) = l.length := by rw [ha, szs_all]
    have hfine := hi.fine (by omega)
    refine treeOf_call (l := its) ho.in hfine fun t W5 ht hti x5 => nn_some ?_
    have S5 := S4.ext x5
    rw [addr_add]
    refine aggSt_r (S5.at_ 0 rfl) rfl rfl (by show 0 + 2 + 1 ≤ 4; decide) fun W6 u56 n6' z6 => ?_
    have n6 : W6.heap[b7]? = some (Zt t.ptr) := n6'
    have hb0 : w.heap.size ≤ b := by omega
    have hb0' : w.heap.size ≤ b7 := by have := e2.size; omega
    have e06 : Ext w W6 := (e2.trans S5.upd).step u56 fun k hk => by omega
    refine hK b7 (fun k => k = b ∨ k = b7) M W6 ⟨⟨t, ⟨none, 0, 0⟩, [], n6, ?_, ?_, SlOwn.nil _ _ _ _, ?_, ?_, ?_, Nat.le_refl _⟩, hlim, by omega, .inr rfl, ?_⟩ ha (by rw [hb, szs_all]; exact List.take_length) e06 (by rintro k (rfl | rfl) <;> assumption)
    · exact ht.ty u56 (NoTy.box (S5.at_ 0 rfl) (by decide))
    · rw [hti]
      refine (hi.ext x5).upd u56 fun x hx k hkk he => ?_
      have := hk x hx k hkk
      have hbl := lt_of_heap n2
      omega
    · rintro x hx k hkk ⟨q, hq, _⟩; cases hq
    · intro x hx k hkk
      rw [hti] at hx
      exact .inl (hk x hx k hkk)
    · rintro k ⟨q, hq, _⟩; cases hq
    · have hbl := lt_of_heap n2
      have h7 := lt_of_heap n6
      have := S5.upd.size
      rintro k (rfl | rfl) <;> omega
end
end Go.Proofs.YtmooldhpiopcgaaGreatDoor
set_option linter.unusedSimpArgs false
set_option linter.unusedVariables false
set_option maxRecDepth 100000
namespace Go.Proofs.YtmooldhpiopcgaaGreatDoor
open Go Go.Vx Cdc Trx
section
variable {w w' : World} {S : Nat → Prop} {p : Nat} {e : Enc} {lim na : Nat} {O : Nat → Prop} {M : Parts}
theorem bOf_len (e : Enc) : ∀ M : Parts, (bOf M).length = szs (aOf e M)
  | [] => rfl
  | x :: M => by
    show (x.2 ++ bOf M).length = szs (ats e x.2 ++ aOf e M)
    rw [List.length_append, szs_append, szs_all, bOf_len e M]
end
end Go.Proofs.YtmooldhpiopcgaaGreatDoor
set_option linter.unusedSimpArgs false
set_option linter.unusedVariables false
set_option maxRecDepth 100000
namespace Go.Proofs.YtmooldhpiopcgaaGreatDoor
open Go Go.Vx Cdc Trx
section
variable {w w' : World} {S : Nat → Prop} {e : Enc} {M : Parts}
def chunkOf (B : Bs) (j : Nat) : Bs := (B.drop (1024 * j)).take 1024
structure Wk (z l b1 c1 : Nat) (rc : LoopState → Option Code → Loop) (A : List Nat) (G0 : Nat → Prop) (its : List Pc) (e : Enc) (M : Parts) (Inv : Nat → (Nat → Prop) → World → Prop) (j : Nat) (G : Nat → Prop) (W : World) : Prop where
  inv : Inv j G W
  lt : ∀ k, G k → k < W.heap.size
  sub : ∀ k, G k → G0 k ∨ z ≤ k
  no : ∀ k ∈ A, ¬ G k ∧ k < W.heap.size ∧ z ≤ k
  y : W.heap[b1]? = some (.cells #[.func (.yield l) #[] #[]] 304 (0, 0))
  c : W.heap[c1]? = some (.cells #[.int .i64 1024] 3 (0, 0))
  r : W.heap[l]? = some (.loop (rc .ready none))
  its : Its W e its M
  d : W.heap[z]? = some (.deferred (some []))
structure Ck (z b3 : Nat) (A : List Nat) (s : Sl) (ch : Bs) (G : Nat → Prop) (W : World) : Prop where
  box : W.heap[b3]? = some (.cells #[.slice s.a s.len s.cap] 30 (0, 0))
  row : SlOwn W z s 5 1 (bv ch)
  no : ∀ k, s.blk k → ¬ G k
  na : ∀ k ∈ A, ¬ s.blk k
structure Rds (z l : Nat) (rc : LoopState → Option Code → Loop) (B : Bs) (Inv : Nat → (Nat → Prop) → World → Prop) (Brk : Code → (Nat → Prop) → World → Prop) : Prop where
  hx : ∀ j G (S : Nat → Prop) W W', Inv j G W → Upd S W W' → (∀ k, S k → ¬ G k ∧ z ≤ k) → Inv j G W'
  hxb : ∀ q G (S : Nat → Prop) W W', Brk q G W → Upd S W W' → (∀ k, S k → ¬ G k ∧ z ≤ k) → Brk q G W'
  hy : ∀ j s (G : Nat → Prop) W (R : Bool → World → Prop), chunkOf B j ≠ [] → Inv j G W → (∀ k, G k → k < W.heap.size) → ¬ G l → By W s (chunkOf B j) → (∀ k, s.blk k → ¬ G k) → W.heap[l]? = some (.loop (rc .ready none)) →
    (∀ G' W', Stay W W' → Upd (fun k => G k ∨ k = l) W W' → (∀ k, G' k → G k ∨ W.heap.size ≤ k) → (∀ k, G' k → k < W'.heap.size) → Inv (j + 1) G' W' → W'.heap[l]? = some (.loop (rc .ready none)) → R true W') →
    (∀ q G' W', Stay W W' → Upd (fun k => G k ∨ k = l) W W' → (∀ k, G' k → G k ∨ W.heap.size ≤ k) → (∀ k, G' k → k < W'.heap.size) → Brk q G' W' → W'.heap[l]? = some (.loop (rc .done (some q))) → R false W') →
    yieldX Tryz.prog l [.slice s.a s.len s.cap] R W
variable {z l b1 b3 c1 : Nat} {rc : LoopState → Option Code → Loop} {A : List Nat} {G0 G : Nat → Prop} {its : List Pc} {Inv : Nat → (Nat → Prop) → World → Prop} {Brk : Code → (Nat → Prop) → World → Prop} {j : Nat} {W W' : World} {s : Sl} {ch B : Bs}
theorem Wk.own (h : Wk z l b1 c1 rc A G0 its e M Inv j G W) (R : Rds z l rc B Inv Brk) (u : Upd S W W') (hS : ∀ k, S k → ¬ G k ∧ z ≤ k) (h1 : ¬ S b1) (h2 : ¬ S c1) (h3 : ¬ S l) (h4 : ∀ x ∈ its, ∀ k, x.bytes.blk k → ¬ S k) (h5 : ¬ S z) : Wk z l b1 c1 rc A G0 its e M Inv j G W' :=
  ⟨R.hx _ _ _ _ _ h.inv u hS, fun k hk => Nat.lt_of_lt_of_le (h.lt k hk) u.size, h.sub, fun k hk => let ⟨a, b, c⟩ := h.no k hk; ⟨a, Nat.lt_of_lt_of_le b u.size, c⟩, u.get h.y h1, u.get h.c h2, u.get h.r h3, h.its.upd u h4, u.get h.d h5⟩
theorem Wk.ext (h : Wk z l b1 c1 rc A G0 its e M Inv j G W) (R : Rds z l rc B Inv Brk) (u : Ext W W') : Wk z l b1 c1 rc A G0 its e M Inv j G W' :=
  h.own R u (fun _ h => h.elim) id id id (fun _ _ _ _ => id) id
theorem Ck.ext (h : Ck z b3 A s ch G W) (u : Ext W W') : Ck z b3 A s ch G W' := ⟨u.ext_get h.box, h.row.ext u, h.no, h.na⟩
theorem Ck.upd (h : Ck z b3 A s ch G W) (u : Upd S W W') (h1 : ¬ S b3) (h2 : ∀ k, s.blk k → ¬ S k) : Ck z b3 A s ch G W' := ⟨u.get h.box h1, h.row.upd u fun k _ hk => h2 k hk, h.no, h.na⟩
theorem wk_yield (h : Wk z l b1 c1 rc A G0 its e M Inv j G W) (C : Ck z b3 A s ch G W) (R : Rds z l rc B Inv Brk) (hl : l ∈ A) (h1 : b1 ∈ A) (hz : z ∈ A) (hc1 : c1 < z ∧ ¬ G0 c1) (hits : ∀ x ∈ its, ∀ k, x.bytes.blk k → k < z ∧ ¬ G0 k)
    (hch : chunkOf B j = ch) (hne : ch ≠ []) {K : Bool → World → Prop}
    (ht : ∀ G' W', Wk z l b1 c1 rc A G0 its e M Inv (j + 1) G' W' → Upd (fun k => G0 k ∨ z ≤ k) W W' → (∀ k ∈ A, k ≠ l → ∀ o, W.heap[k]? = some o → W'.heap[k]? = some o) → Stay W W' → K true W')
    (hf : ∀ q G' W', Brk q G' W' → (∀ k ∈ A, ¬ G' k) → W'.heap[l]? = some (.loop (rc .done (some q))) → (∀ k ∈ A, k ≠ l → ∀ o, W.heap[k]? = some o → W'.heap[k]? = some o) → Stay W W' → K false W') :
    callX Tryz.prog (do let d ← Deferred.ofValue (.func (.yield l) #[] #[]) #[.slice s.a s.len s.cap]; invoke d.target d.args : Sem Next) (.one (.one .bool)) K W := by
  have hby : By W s (chunkOf B j) := by rw [hch]; exact C.row.in
  have noA : ∀ (G' : Nat → Prop), (∀ k, G' k → G k ∨ W.heap.size ≤ k) → ∀ k ∈ A, ¬ G' k := fun G' hG' k hk hg => by
    obtain ⟨a, b, _⟩ := h.no k hk
    rcases hG' k hg with hh | hh
    · exact a hh
    · omega
  refine yield_x (R.hy j s G W K (by rw [hch]; exact hne) h.inv h.lt (h.no l hl).1 hby C.no h.r (fun G' W' st u hG' hlt hi hr => ?_) fun q G' W' st u hG' hlt hb hr => ?_)
  · have ne : ∀ k ∈ A, k ≠ l → ¬ (fun k => G k ∨ k = l) k := fun k hk hne hh => hh.elim (h.no k hk).1 hne
    have hb1l : b1 ≠ l := fun hh => by have := h.y; rw [hh, h.r] at this; cases this
    have hc1l : c1 ≠ l := fun hh => by have := h.c; rw [hh, h.r] at this; cases this
    have old : ∀ k, k < z → ¬ G0 k → ¬ G k := fun k hk h0 hg => by
      rcases h.sub k hg with hh | hh
      · exact h0 hh
      · omega
    have hlz := (h.no l hl).2.2
    refine ht G' W' ⟨hi, hlt, fun k hk => ?_, fun k hk => ?_, u.get h.y (ne b1 h1 hb1l), u.get h.c fun hh => hh.elim (old c1 hc1.1 hc1.2) hc1l, hr, h.its.upd u fun x hx k hk hh => ?_, u.get h.d (ne z hz fun hh => by have := h.d; rw [hh, h.r] at this; cases this)⟩ (u.mono fun k _ hk => hk.elim (h.sub k) fun hh => .inr (by omega)) (fun k hk hne o ho => u.get ho (ne k hk hne)) st
    · rcases hG' k hk with hh | hh
      · exact h.sub k hh
      · exact .inr (by have := h.no l hl; omega)
    · obtain ⟨a, b, c⟩ := h.no k hk
      exact ⟨noA G' hG' k hk, Nat.lt_of_lt_of_le b u.size, c⟩
    · obtain ⟨k1, k2⟩ := hits x hx k hk
      rcases hh with hh | hh
      · exact old k k1 k2 hh
      · omega
  · exact hf q G' W' hb (noA G' hG') hr (fun k hk hne o ho => u.get ho fun hh => hh.elim (h.no k hk).1 hne) st
theorem nil_blk {Q : Prop} {k n m : Nat} (h : (⟨none, n, m⟩ : Sl).blk k) : Q := by
  obtain ⟨p, hp, _⟩ := h
  cases hp
theorem ck_grow (h : Wk z l b1 c1 rc A G0 its e M Inv j G W) (C : Ck z b3 A s ch G W) (R : Rds z l rc B Inv Brk) (h3 : b3 ∈ A) (hc1 : c1 < z) (hits : ∀ x ∈ its, ∀ k, x.bytes.blk k → k < z) {x : Sl} {us : Bs} (hx : SlX W x 1 (bv us)) (hlen : ch.length + us.length ≤ 2048) {K : World → Prop}
    (hK : ∀ s' W', Wk z l b1 c1 rc A G0 its e M Inv j G W' → Ck z b3 A s' (ch ++ us) G W' → Upd (fun k => s.blk k ∨ k = b3) W W' → Stay W W' → K W') :
    rawT Tryz.prog (.one (.one .sl)) (Builtin.append_ #[30, 30] 30 #[.slice s.a s.len s.cap, .slice x.a x.len x.cap]) (fun x => stC (at0 b3) (.slice x.a x.len x.cap) K) W := by
  have hl1 := C.row.len1
  rw [List.length_map] at hl1
  have hl2 := hx.len1
  rw [List.length_map] at hl2
  have hz := h.no b3 h3
  have bc : ∀ k, s.blk k → ∃ c fr, W.heap[k]? = some (.cells c 5 fr) := fun k hk => C.row.in.blk_cells hk
  refine append_rx EBy uBy C.row hx (bv_one us) (by omega) (by omega) fun s' W1 r1 hl u1 hb1 => ?_
  have hb3 : ¬ s.blk b3 := fun hh => by obtain ⟨c, fr, hc⟩ := bc _ hh; rw [C.box] at hc; cases hc
  have hzb : ¬ s.blk z := fun hh => by obtain ⟨c, fr, hc⟩ := bc _ hh; rw [h.d] at hc; cases hc
  have w1 := h.own R u1 (fun k hk => ⟨C.no k hk, C.row.blk_ge hk⟩) (fun hh => by obtain ⟨c, fr, hc⟩ := bc _ hh; rw [h.y] at hc; cases hc) (fun hh => by obtain ⟨c, fr, hc⟩ := bc _ hh; rw [h.c] at hc; cases hc)
    (fun hh => by obtain ⟨c, fr, hc⟩ := bc _ hh; rw [h.r] at hc; cases hc) (fun x' hx' k hk hh => by have := hits x' hx' k hk; have := C.row.blk_ge hh; omega) hzb
  have st1 : Stay W W1 := Stay.upd u1 fun k hk o ho => by obtain ⟨c, fr, hc⟩ := bc k hk; rw [hc] at ho; cases ho; rfl
  have x1 := u1.get C.box hb3
  refine stC_r x1 Nat.one_pos fun W2 u2 n2 _ => ?_
  have w2 := w1.own R u2 (fun k hk => by rw [hk]; exact ⟨hz.1, hz.2.2⟩) (fun hh => by have := w1.y; rw [hh, x1] at this; cases this) (by omega) (fun hh => by have := w1.r; rw [hh, x1] at this; cases this) (fun x' hx' k hk hh => by have := hits x' hx' k hk; omega) (fun hh => by have := w1.d; rw [hh, x1] at this; cases this)
  have st2 : Stay W1 W2 := fr_none x1 rfl u2
  have hbv : bv (ch ++ us) = bv ch ++ bv us := List.map_append
  refine hK s' W2 w2 ⟨n2, ?_, fun k hk hg => ?_, fun k hk hh => ?_⟩ (Upd.trans (u1.mono fun k _ hk => .inl hk) (u2.mono fun k _ hk => .inr hk)) (st1.trans st2)
  · rw [hbv]
    exact r1.upd u2 fun k _ hk hh => by obtain ⟨c, fr, hc⟩ := r1.in.blk_cells hk; rw [hh, x1] at hc; cases hc
  · rcases hb1 k hk with hh | hh
    · exact C.no k hh hg
    · have := h.lt k hg; omega
  · rcases hb1 k hh with h' | h'
    · exact C.na k hk h'
    · have := (h.no k hk).2.1; omega
theorem ck_nil (h : Wk z l b1 c1 rc A G0 its e M Inv j G W) (hb : W.heap[b3]? = some (.cells #[.slice s.a s.len s.cap] 30 (0, 0))) (R : Rds z l rc B Inv Brk) (h3 : b3 ∈ A) (hc1 : c1 < z) (hits : ∀ x ∈ its, ∀ k, x.bytes.blk k → k < z) {K : World → Prop}
    (hK : ∀ W', Wk z l b1 c1 rc A G0 its e M Inv j G W' → Ck z b3 A ⟨none, 0, 0⟩ [] G W' → Upd (fun k => k = b3) W W' → Stay W W' → K W') : stC (at0 b3) (.slice none 0 0) K W := by
  have hz := h.no b3 h3
  refine stC_r hb Nat.one_pos fun W2 u2 n2 _ => hK W2 ?_ ⟨n2, SlOwn.nil _ _ _ _, fun k hk => nil_blk hk, fun k _ hk => nil_blk hk⟩ u2 (fr_none hb rfl u2)
  exact h.own R u2 (fun k hk => by rw [hk]; exact ⟨hz.1, hz.2.2⟩) (fun hh => by have := h.y; rw [hh, hb] at this; cases this) (by omega) (fun hh => by have := h.r; rw [hh, hb] at this; cases this) (fun x' hx' k hk hh => by have := hits x' hx' k hk; omega) (fun hh => by have := h.d; rw [hh, hb] at this; cases this)
theorem chunk_full {B P : Bs} {j : Nat} (hp : P <+: B) (h1 : 1024 * j ≤ P.length) (h2 : P.length = 1024 * (j + 1)) : chunkOf B j = P.drop (1024 * j) := by
  obtain ⟨Q, rfl⟩ := hp
  unfold chunkOf
  rw [List.drop_append_of_le_length h1, List.take_append_of_le_length (by rw [List.length_drop]; omega), List.take_of_length_le (by rw [List.length_drop]; omega)]
theorem chunk_last {B : Bs} {j : Nat} (h2 : B.length ≤ 1024 * (j + 1)) : chunkOf B j = B.drop (1024 * j) := by
  unfold chunkOf
  exact List.take_of_length_le (by rw [List.length_drop]; omega)
theorem aft_none {N : World → Prop} {E : Nat → World → Prop} {R : World → Prop} (h : N W) : aft N E R none W := h
theorem aft_ret {N : World → Prop} {E : Nat → World → Prop} {R : World → Prop} (h : R W) : aft N E R (some .ret) W := h
set_option maxHeartbeats 2000000 in
theorem chunks_range {t : Tr} {c4 : Nat} {vals : Sl × Unit → List Value} {body : Nat → (LoopState → Option Code → Loop) → (Bool → World → Prop) → Sl × Unit → World → Prop} {aft' : Nat → Option Code → World → Prop}
    (hv : ∀ s, vals s = [.slice s.1.a s.1.len s.1.cap]) (h1 : w.heap[c1]? = some (.cells #[.int .i64 1024] 3 (0, 0))) (h2 : w.heap[c4]? = some (.cells #[.pointer t.ptr] 139 (0, 0))) (ht : t.In w) (hi : Its w e t.items M) (hf : Fine t.items)
    (hG0 : ∀ k, G0 k → k < w.heap.size) (hc1 : ¬ G0 c1) (hits : ∀ x ∈ t.items, ∀ k, x.bytes.blk k → ¬ G0 k) (hB : (bOf M).length ≤ 2 ^ 30)
    (h0 : ∀ W, Ext w W → w.heap.size + 2 ≤ W.heap.size → Inv 0 G0 W)
    (hx : ∀ j G (S : Nat → Prop) W W', Inv j G W → Upd S W W' → (∀ k, S k → ¬ G k ∧ w.heap.size ≤ k) → Inv j G W')
    (hxb : ∀ q G (S : Nat → Prop) W W', Brk q G W → Upd S W W' → (∀ k, S k → ¬ G k ∧ w.heap.size ≤ k) → Brk q G W')
    (hb : ∀ (rc : LoopState → Option Code → Loop) j s (G : Nat → Prop) (R : Bool → World → Prop) W, chunkOf (bOf M) j ≠ [] → Inv j G W → (∀ k, G k → k < W.heap.size) → ¬ G (w.heap.size + 1) → By W s (chunkOf (bOf M) j) → (∀ k, s.blk k → ¬ G k) → W.heap[w.heap.size + 1]? = some (.loop (rc .ready none)) →
      (∀ G' W', Stay W W' → Upd (fun k => G k ∨ k = w.heap.size + 1) W W' → (∀ k, G' k → G k ∨ W.heap.size ≤ k) → (∀ k, G' k → k < W'.heap.size) → Inv (j + 1) G' W' → W'.heap[w.heap.size + 1]? = some (.loop (rc .ready none)) → R true W') →
      (∀ q G' W', Stay W W' → Upd (fun k => G k ∨ k = w.heap.size + 1) W W' → (∀ k, G' k → G k ∨ W.heap.size ≤ k) → (∀ k, G' k → k < W'.heap.size) → Brk q G' W' → W'.heap[w.heap.size + 1]? = some (.loop (rc .done (some q))) → R false W') →
      body (w.heap.size + 1) rc R (s, ()) W)
    (he : ∀ n G W W', (bOf M).length ≤ 1024 * n → Inv n G W → ¬ G (w.heap.size + 1) → ¬ G w.heap.size → W'.heap[w.heap.size]? = some (.deferred (some [])) → Upd (fun k => k = w.heap.size + 1) W W' → aft' w.heap.size none W')
    (hk : ∀ q G W W', Brk q G W → ¬ G (w.heap.size + 1) → ¬ G w.heap.size → W'.heap[w.heap.size]? = some (.deferred (some [])) → Upd (fun k => k = w.heap.size + 1) W W' → aft' w.heap.size (some q) W') :
    rangeE Tryz.prog vals (.func (.func 200) #[] #[.pointer (some (at0 c1)), .pointer (some (at0 c4))]) body aft' w := by
  intro rc hyield
  have e0 : Ext w (w.alloc (.deferred (some []))) := Ext.alloc w _
  generalize hW0 : w.alloc (.deferred (some [])) = W0 at *
  have d0 : W0.heap[w.heap.size]? = some (.deferred (some [])) := by rw [← hW0]; exact heap_alloc w _
  have z0 : W0.heap.size = w.heap.size + 1 := by rw [← hW0]; simp
  have e1 : Ext W0 (W0.alloc (.loop (rc .ready none))) := Ext.alloc W0 _
  have l1 : (W0.alloc (.loop (rc .ready none))).heap[w.heap.size + 1]? = some (.loop (rc .ready none)) := by rw [← z0]; exact heap_alloc W0 _
  have z1 : (W0.alloc (.loop (rc .ready none))).heap.size = w.heap.size + 2 := by simp [z0]
  generalize hW1 : W0.alloc (.loop (rc .ready none)) = W1 at *
  refine ⟨200, #[.func (.yield (w.heap.size + 1)) #[] #[], .pointer (some (at0 c1)), .pointer (some (at0 c4))], ?_, ?_⟩
  · simp only [Deferred.ofValue, pure_bind, invoke]
    exact run_callFunc (P := Tryz.prog) (f := 200) (by kernel_rfl) W1
  have e01 := e0.trans e1
  refine F200_calls ?_
  unfold F200
  refine chk_r rfl ((St.start W1).newO fun b1 W2 S2 e2 => ld_r (S2.upd.ext_get (e01.ext_get h1)) (x := (1024 : Int)) rfl (sif_r (fun h => absurd h (by decide)) fun _ => S2.newO fun b3 W3 S3 e3 => lds_r (x := (t.ptr, ())) (S3.upd.ext_get (e01.ext_get h2)) (fun i v hv => by rw [Nat.zero_add, ← Array.getElem?_toList]; exact hv) ?_))
  refine F70_calls (a0 := (t.ptr, ())) ?_
  unfold F70
  refine S3.newO fun d1 W4 S4 e4 => S4.newO fun d2 W5 S5 e5 => ?_
  have x15 := S5.upd
  have x05 : Ext w W5 := e01.trans x15
  have g1 := S5.ge 3 rfl
  have g3 := S5.ge 2 rfl
  have lb1 := lt_of_heap (S5.at_ 3 rfl)
  have lb3 := lt_of_heap (S5.at_ 2 rfl)
  have zz := x15.size
  have nd : [d2, d1, b3, b1].Nodup := S5.nd
  simp only [List.nodup_cons, List.mem_cons, List.not_mem_nil, or_false, not_or] at nd
  have y5 := S5.at_ 3 rfl
  have k5 := S5.at_ 2 rfl
  obtain ⟨z, hz⟩ : ∃ z, z = w.heap.size := ⟨_, rfl⟩
  obtain ⟨l, hl⟩ : ∃ l, l = z + 1 := ⟨_, rfl⟩
  obtain ⟨z5, hz5⟩ : ∃ z5, z5 = W5.heap.size := ⟨_, rfl⟩
  rw [← hz] at d0 z0 l1 z1 y5 hyield hx hxb h0 hb he hk hG0 ⊢
  rw [← hl] at l1 y5 hyield hb he hk ⊢
  have hc1z : c1 < z := by have := lt_of_heap h1; omega
  obtain ⟨A, hA⟩ : ∃ A, A = [l, b1, b3, z5, z5 + 1, z] := ⟨_, rfl⟩
  have itsz : ∀ x ∈ t.items, ∀ k, x.bytes.blk k → k < z ∧ ¬ G0 k := fun x hx k hk => by
    obtain ⟨i, hxi⟩ := List.mem_iff_getElem?.1 hx
    obtain ⟨y, _, hp⟩ := hi.get i hxi
    exact ⟨by have := hp.by_.blk_lt hk; omega, hits x hx k hk⟩
  have Rd : Rds z l rc (bOf M) Inv Brk := ⟨hx, hxb, fun j s G W R hne hj hlt hGl hs hsG hr hT hF => by
    have := hyield R (s, ()) W hr (hb rc j s G R W hne hj hlt hGl hs hsG hr hT hF)
    rwa [hv] at this⟩
  let At : Nat → World → Prop := fun i W => ∃ j G s, Wk z l b1 c1 rc A G0 t.items e M Inv j G W ∧ Ck z b3 A s ((bOf (M.take i)).drop (1024 * j)) G W ∧ 1024 * j ≤ (bOf (M.take i)).length ∧ (bOf (M.take i)).length < 1024 * (j + 1)
  have fin : ∀ (K' : World → Prop) q G W, Brk q G W → (∀ k ∈ A, ¬ G k) → W.heap[l]? = some (.loop (rc .done (some q))) → W.heap[z]? = some (.deferred (some [])) → W.heap[z5]? = some (.deferred (some [])) → (aft' z (some q) (((W.putObj z5 (.deferred none))).putObj l (.loop (rc .exhausted (some q)))) → K' (W.putObj z5 (.deferred none))) → endM z5 K' W := by
    intro K' q G W hq hA' hr hd hD hK'
    obtain ⟨u1, _⟩ := upd_putObj (o' := .deferred none) hD
    have r1 := u1.get1 hr (by omega)
    obtain ⟨u2, _⟩ := upd_putObj (o' := .loop (rc .exhausted (some q))) r1
    have q1 := hxb q G _ _ _ hq u1 fun k hk => ⟨by rw [hk]; exact hA' z5 (by rw [hA]; simp), by omega⟩
    refine ⟨hD, hK' (hk q G _ _ q1 (hA' l (by rw [hA]; simp)) (hA' z (by rw [hA]; simp)) ?_ u2)⟩
    exact u2.get1 (u1.get1 hd (by omega)) (by omega)
  have fin2 : ∀ (K' : World → Prop) n G W, (bOf M).length ≤ 1024 * n → Wk z l b1 c1 rc A G0 t.items e M Inv n G W → W.heap[z5]? = some (.deferred (some [])) → (aft' z none (((W.putObj z5 (.deferred none))).putObj l (.loop (rc .exhausted none))) → K' (W.putObj z5 (.deferred none))) → endM z5 K' W := by
    intro K' n G W hn hW hD hK'
    obtain ⟨u1, _⟩ := upd_putObj (o' := .deferred none) hD
    have r1 := u1.get1 hW.r (by omega)
    obtain ⟨u2, _⟩ := upd_putObj (o' := .loop (rc .exhausted none)) r1
    have q1 := hx n G _ _ _ hW.inv u1 fun k hk => ⟨by rw [hk]; exact (hW.no z5 (by rw [hA]; simp)).1, by omega⟩
    refine ⟨hD, hK' (he n G _ _ hn q1 (hW.no l (by rw [hA]; simp)).1 (hW.no z (by rw [hA]; simp)).1 ?_ u2)⟩
    have hd := hW.d
    exact u2.get1 (u1.get1 hd (by omega)) (by omega)
  refine items_range (n := 0) (fun _ => rfl) (S5.at_ 1 rfl) (S5.at_ 0 rfl) (ht.ext x05) hf (by omega) At (fun c W => c = .ret ∧ ∃ q G, Brk q G W ∧ (∀ k ∈ A, ¬ G k) ∧ W.heap[l]? = some (.loop (rc .done (some q))) ∧ W.heap[z]? = some (.deferred (some []))) ?_ ?_ ?_ ?_ ?_
  · intro W x hW
    refine ⟨0, G0, ⟨none, 0, 0⟩, ⟨h0 W (x05.trans x) (by have := x.size; omega), fun k hk => ?_, fun k hk => .inl hk, fun k hk => ?_, x.ext_get y5, x.ext_get (x05.ext_get h1), x.ext_get (x15.ext_get l1), hi.ext (x05.trans x), x.ext_get (x15.ext_get (e1.ext_get d0))⟩, ⟨x.ext_get k5, SlOwn.nil _ _ _ _, fun k hk => nil_blk hk, fun k _ hk => nil_blk hk⟩, by simp, by simp [bOf]⟩
    · have := hG0 k hk; have := x.size; omega
    · rw [hA] at hk
      simp only [List.mem_cons, List.not_mem_nil, or_false] at hk
      have : z ≤ k ∧ k < W.heap.size := by have := x.size; omega
      exact ⟨fun hg => by have := hG0 k hg; omega, this.2, this.1⟩
  · rintro i W W' ⟨j, G, s, hW, hC, hj⟩ x
    exact ⟨j, G, s, hW.ext Rd x, hC.ext x, hj⟩
  · rintro rc6 i x R W hxi ⟨j, G, s, hW, hC, hj1, hj2⟩ hr6 hRt hRf
    rw [← hz5] at hr6 hRt hRf ⊢
    have hxi : t.items[i]? = some x := hxi
    obtain ⟨y, hy, hp⟩ := hW.its.get i hxi
    have hM1 : bOf (M.take (i + 1)) = bOf (M.take i) ++ y.2 := by
      rw [List.take_add_one, hy, Option.toList_some, bOf_app]
      simp [bOf]
    have hpre : bOf (M.take (i + 1)) <+: bOf M := by
      have : bOf M = bOf (M.take (i + 1)) ++ bOf (M.drop (i + 1)) := by rw [← bOf_app, List.take_append_drop]
      rw [this]; exact List.prefix_append _ _
    have hplen := hpre.length_le
    obtain ⟨P, hP⟩ : ∃ P, bOf (M.take i) = P := ⟨_, rfl⟩
    rw [hP] at hM1 hC hj1 hj2
    rw [hM1, List.length_append] at hplen
    have hxz : ∀ k, x.bytes.blk k → k < z ∧ ¬ G0 k := itsz x (List.mem_of_getElem? hxi)
    have h6A : z5 + 1 ∈ A := by rw [hA]; simp
    have hlA : l ∈ A := by rw [hA]; simp
    have h1A : b1 ∈ A := by rw [hA]; simp
    have h3A : b3 ∈ A := by rw [hA]; simp
    have hxl := hp.by_.len
    refine (St.start W).newAgg rfl rfl rfl fun b11 W2 T2 y2 => ⟨y2.ext_get hr6, ?_⟩
    have r6 := y2.ext_get hr6
    obtain ⟨u3, r3⟩ := upd_putObj (o' := .loop (rc6 .busy none)) r6
    have s3 : Stay W2 (W2.putObj (z5 + 1) (.loop (rc6 .busy none))) := Stay.upd u3 fun k hk o ho => by subst hk; rw [r6] at ho; cases ho; rfl
    have m11 := u3.get1 (T2.at_ 0 rfl) (fun hh => by have := T2.at_ 0 rfl; rw [hh, r6] at this; cases this)
    have hW2 := hW.ext Rd y2
    have hC2 := hC.ext y2
    have hW3 := hW2.own Rd u3 (fun k hk => by rw [hk]; exact ⟨(hW2.no _ h6A).1, (hW2.no _ h6A).2.2⟩) (by omega) (by omega) (by omega) (fun x' hx' k hk hh => by have := (itsz x' hx' k hk).1; omega) (by omega)
    have hC3 := hC2.upd u3 (by omega) fun k hk hh => by
      obtain ⟨c, fr, hc⟩ := hC2.row.in.blk_cells hk
      rw [hh, r6] at hc; cases hc
    have st3 : Stay W (W2.putObj (z5 + 1) (.loop (rc6 .busy none))) := (Stay.ext y2).trans s3
    generalize W2.putObj (z5 + 1) (.loop (rc6 .busy none)) = W3 at *
    refine ld_r m11 (x := x.bytes) rfl ?_
    refine sloop_r (fun s4 W4 => ∃ q j G s, q ≤ y.2.length ∧ By W4 s4.1 (y.2.drop q) ∧ (∀ k, s4.1.blk k → x.bytes.blk k) ∧ W4.heap[z5 + 1]? = some (.loop (rc6 .busy none)) ∧ Stay W W4 ∧ Wk z l b1 c1 rc A G0 t.items e M Inv j G W4 ∧ Ck z b3 A s ((P ++ y.2.take q).drop (1024 * j)) G W4 ∧ 1024 * j ≤ (P ++ y.2.take q).length ∧ (P ++ y.2.take q).length < 1024 * (j + 1)) (fun s4 _ => s4.1.len) ⟨0, j, G, s, Nat.zero_le _, ?_, fun k hk => hk, r3, st3, hW3, by simpa using hC3, by simpa using hj1, by simpa using hj2⟩ ?_
    · obtain ⟨y', hy', hp'⟩ := hW3.its.get i hxi
      rw [hy] at hy'; cases hy'
      simpa using hp'.by_
    clear hW hC hW2 hC2 hW3 hC3 hj1 hj2 hp m11 r3 st3 T2 y2 u3 s3
    rintro ⟨sx, _⟩ W4 ⟨q, j, G, s, hq, hby, hsb, r4, st4, hW4, hC4, hj1, hj2⟩
    dsimp only at hby hsb ⊢
    have hbl := hby.len
    rw [List.length_drop] at hbl
    refine sif_r (fun hlt => ?_) fun hge => ?_
    rotate_left
    ·
      have hge := of_decide_eq_false hge
      have hql : q = y.2.length := by omega
      obtain ⟨u8, r8⟩ := upd_putObj (o' := .loop (rc6 .ready none)) r4
      have s8 : Stay W4 (W4.putObj (z5 + 1) (.loop (rc6 .ready none))) := Stay.upd u8 fun k hk o ho => by subst hk; rw [r4] at ho; cases ho; rfl
      refine ⟨⟨_, _, r4⟩, hRt _ (st4.trans s8) ⟨j, G, s, hW4.own Rd u8 (fun k hk => by rw [hk]; exact ⟨(hW4.no _ h6A).1, (hW4.no _ h6A).2.2⟩) (by omega) (by omega) (by omega) (fun x' hx' k hk hh => by have := (itsz x' hx' k hk).1; omega) (by omega), ?_⟩ r8⟩
      rw [hM1]
      rw [hql, List.take_length] at hC4 hj1 hj2
      refine ⟨hC4.upd u8 (by omega) fun k hk hh => ?_, hj1, hj2⟩
      obtain ⟨c, fr, hc⟩ := hC4.row.in.blk_cells hk
      rw [hh, r4] at hc; cases hc
    have hlt := of_decide_eq_true hlt
    have hzA : z ∈ A := by rw [hA]; simp
    have hl1 := hC4.row.len1
    rw [List.length_map, List.length_drop] at hl1
    obtain ⟨cl, hcl⟩ : ∃ cl, cl = (P ++ y.2.take q).length := ⟨_, rfl⟩
    rw [← hcl] at hl1 hj1 hj2
    have hcle : cl = P.length + q := by rw [hcl, List.length_append, List.length_take]; omega
    refine ld_r hW4.c (x := (1024 : Int)) rfl (ld_r hC4.box (x := s) rfl (drew_r fun W5 e5 _ => ?_))
    have hW5 := hW4.ext Rd e5
    have hC5 := hC4.ext e5
    obtain ⟨n, hn, hn1, hn2, hn3, hn4⟩ : ∃ n : Nat, (if ((sx.len : Nat) : Int) < IntKind.wrap .i64 (1024 - ((s.len : Nat) : Int)) then ((sx.len : Nat) : Int) else IntKind.wrap .i64 (1024 - ((s.len : Nat) : Int))) = (n : Int) ∧ n ≤ sx.len ∧ s.len + n ≤ 1024 ∧ 0 < n ∧ (n = sx.len ∨ s.len + n = 1024) := by
      rw [wrap64 (by omega) (by omega)]
      by_cases hc : ((sx.len : Nat) : Int) < 1024 - ((s.len : Nat) : Int)
      · exact ⟨sx.len, by rw [if_pos hc], by omega, by omega, by omega, .inl rfl⟩
      · exact ⟨1024 - s.len, by rw [if_neg hc]; omega, by omega, by omega, by omega, .inr (by omega)⟩
    rw [hn]
    have hcap := hby.le
    refine ld_r hC5.box (x := s) rfl (slc_r (hby.ext e5) (by omega) (by omega) (by omega) (by omega) (by omega) fun x18 hx18 hl18 _ hb18 => ?_)
    have hbv : ((bv (y.2.drop q)).drop (Int.toNat 0 * 1)).take ((Int.toNat (n : Int) - Int.toNat 0) * 1) = bv ((y.2.drop q).take n) := by
      rw [Int.toNat_natCast]; simp [List.map_take]
    rw [hbv] at hx18
    have htl : ((y.2.drop q).take n).length = n := by rw [List.length_take, List.length_drop]; omega
    refine ck_grow hW5 hC5 Rd h3A hc1z (fun x hx k hk => (itsz x hx k hk).1) hx18.x (by rw [htl, List.length_drop, ← hcl]; omega) fun s6 W6 hW6 hC6 u6 st6 => ?_
    have hPq : (P ++ y.2.take q).drop (1024 * j) ++ (y.2.drop q).take n = (P ++ y.2.take (q + n)).drop (1024 * j) := by
      rw [List.take_add, ← List.append_assoc]
      exact (List.drop_append_of_le_length (by rw [← hcl]; exact hj1)).symm
    rw [hPq] at hC6
    have hby6 : By W6 sx (y.2.drop q) := (hby.ext e5).upd u6 fun k hk hh => by
      have h1 := (hxz k (hsb k hk)).1
      rcases hh with hh | hh
      · have := hC5.row.blk_ge hh; omega
      · omega
    have r6' : W6.heap[z5 + 1]? = some (.loop (rc6 .busy none)) := u6.get (e5.ext_get r4) fun hh => by
      rcases hh with hh | hh
      · obtain ⟨c, fr, hc⟩ := hC5.row.in.blk_cells hh
        rw [e5.ext_get r4] at hc; cases hc
      · omega
    refine slc_r hby6 (by omega) (by omega) (by omega) (by omega) (by omega) fun x20 hx20 hl20 _ hb20 => ?_
    have hbv2 : ((bv (y.2.drop q)).drop (Int.toNat (n : Int) * 1)).take ((Int.toNat ((sx.len : Nat) : Int) - Int.toNat (n : Int)) * 1) = bv (y.2.drop (q + n)) := by
      rw [Int.toNat_natCast, Int.toNat_natCast, Nat.mul_one, Nat.mul_one, ← List.map_drop, List.drop_drop, List.take_of_length_le]
      rw [List.length_map, List.length_drop]; omega
    rw [hbv2] at hx20
    have hPl : (P ++ y.2.take (q + n)).length = cl + n := by rw [List.length_append, List.length_take]; omega
    have hPp : P ++ y.2.take (q + n) <+: bOf M := by
      refine List.IsPrefix.trans ?_ hpre
      rw [hM1]
      exact (List.prefix_append_right_inj P).2 (List.take_prefix _ _)
    have hl6 := hC6.row.len1
    rw [List.length_map, List.length_drop, hPl] at hl6
    refine ld_r hC6.box (x := s6) rfl (ld_r hW6.c (x := (1024 : Int)) rfl (sif_r (fun hfull => ?_) fun hpart => ?_))
    · have hfull : ((s6.len : Nat) : Int) = 1024 := by simpa using hfull
      refine ld_r hW6.y (x := (.func (.yield l) #[] #[] : Value)) rfl (ld_r hC6.box (x := s6) rfl ?_)
      refine wk_yield hW6 hC6 Rd hlA h1A hzA ⟨hc1z, hc1⟩ itsz (chunk_full hPp (by rw [hPl]; omega) (by rw [hPl]; omega)) (fun hh => by have := congrArg List.length hh; rw [List.length_drop, hPl, List.length_nil] at this; omega) (fun G7 W7 hW7 u7 k7 st7 => ?_) fun q7 G7 W7 hq7 hn7 hr7 k7 st7 => ?_
      · refine sif_r (fun h => by cases h) fun _ => ?_
        have r7 := k7 (z5 + 1) h6A (by omega) _ r6'
        have hby7 : By W7 x20 (y.2.drop (q + n)) := hx20.upd u7 fun k hk hh => by
          have h1 := hxz k (hsb k (hb20 k hk))
          rcases hh with hh | hh
          · exact h1.2 hh
          · omega
        refine ck_nil hW7 (k7 b3 h3A (by omega) _ hC6.box) Rd h3A hc1z (fun x hx k hk => (itsz x hx k hk).1) fun W8 hW8 hC8 u8 st8 => ⟨⟨q + n, j + 1, G7, ⟨none, 0, 0⟩, by omega, hby7.upd u8 fun k hk hh => ?_, fun k hk => hsb k (hb20 k hk), u8.get1 r7 (by omega), (((st4.trans (Stay.ext e5)).trans st6).trans st7).trans st8, hW8, ?_, by rw [hPl]; omega, by rw [hPl]; omega⟩, ?_⟩
        · have := (hxz k (hsb k (hb20 k hk))).1; omega
        · have : (P ++ y.2.take (q + n)).drop (1024 * (j + 1)) = [] := List.drop_eq_nil_of_le (by rw [hPl]; omega)
          rw [this]; exact hC8
        · show x20.len < sx.len; omega
      · refine sif_r (fun _ => ?_) fun h => by cases h
        have r7 := k7 (z5 + 1) h6A (by omega) _ r6'
        obtain ⟨u8, r8⟩ := upd_putObj (o' := .loop (rc6 .done (some .ret))) r7
        have s8 : Stay W7 (W7.putObj (z5 + 1) (.loop (rc6 .done (some .ret)))) := Stay.upd u8 fun k hk o ho => by subst hk; rw [r7] at ho; cases ho; rfl
        refine ⟨⟨_, _, r7⟩, hRf .ret _ ((((st4.trans (Stay.ext e5)).trans st6).trans st7).trans s8) r8 ⟨rfl, q7, G7, hxb q7 G7 _ _ _ hq7 u8 fun k hk => ⟨by rw [hk]; exact hn7 _ h6A, by omega⟩, hn7, u8.get1 hr7 (by omega), u8.get1 (k7 z hzA (by omega) _ hW6.d) (by omega)⟩⟩
    · have hpart : ¬ ((s6.len : Nat) : Int) = 1024 := by simpa using hpart
      refine ⟨⟨q + n, j, G, s6, by omega, hx20, fun k hk => hsb k (hb20 k hk), r6', (st4.trans (Stay.ext e5)).trans st6, hW6, hC6, by rw [hPl]; omega, by rw [hPl]; omega⟩, ?_⟩
      show x20.len < sx.len; omega
  · rintro W W' ⟨j, G, s, hW, hC, hj1, hj2⟩ hD u
    rw [← hz5] at hD u ⊢
    have il := hi.len
    rw [Nat.sub_zero, il, List.take_length] at hC hj1 hj2
    have h6A : z5 + 1 ∈ A := by rw [hA]; simp
    have hlA : l ∈ A := by rw [hA]; simp
    have h1A : b1 ∈ A := by rw [hA]; simp
    have h3A : b3 ∈ A := by rw [hA]; simp
    have hzA : z ∈ A := by rw [hA]; simp
    have hW' := hW.own Rd u (fun k hk => by rw [hk]; exact ⟨(hW.no _ h6A).1, (hW.no _ h6A).2.2⟩) (by omega) (by omega) (by omega) (fun x' hx' k hk hh => by have := (itsz x' hx' k hk).1; omega) (by omega)
    have hl1 := hC.row.len1
    rw [List.length_map, List.length_drop] at hl1
    have n3 := u.get1 hC.box (by omega)
    have hfin : ∀ n G W, (bOf M).length ≤ 1024 * n → Wk z l b1 c1 rc A G0 t.items e M Inv n G W → W.heap[z5]? = some (.deferred (some [])) → endM z5 (fun W => ∃ st pe, W.heap[l]? = some (.loop (rc st pe)) ∧ st ≠ .busy ∧ aft' z pe (W.putObj l (.loop (rc .exhausted pe)))) W := fun n G W hn hw hd =>
      fin2 _ n G W hn hw hd fun h => ⟨.ready, none, (upd_putObj (o' := .deferred none) hd).1.get1 hw.r (by omega), by decide, h⟩
    refine aft_none (ld_r n3 (x := s) rfl (sif_r (fun hp => ?_) fun hp => ?_))
    · have hp := of_decide_eq_true hp
      have hs6 : ∀ k, s.blk k → k ≠ z5 + 1 := fun k hk hh => hC.na _ h6A (hh ▸ hk)
      have hC' : Ck z b3 A s ((bOf M).drop (1024 * j)) G W' := hC.upd u (by omega) fun k hk hh => hs6 k hk hh
      refine ld_r hW'.y (x := (.func (.yield l) #[] #[] : Value)) rfl (ld_r n3 (x := s) rfl ?_)
      refine wk_yield hW' hC' Rd hlA h1A hzA ⟨hc1z, hc1⟩ itsz (chunk_last (by omega)) (fun hh => by have := congrArg List.length hh; rw [List.length_drop, List.length_nil] at this; omega) (fun G7 W7 hW7 u7 k7 st7 => ?_) fun q7 G7 W7 hq7 hn7 hr7 k7 st7 => ?_
      · exact hfin (j + 1) G7 W7 (by omega) hW7 (st7.at_ _ _ hD rfl)
      · have hd7 := st7.at_ _ _ hD rfl
        exact fin _ q7 G7 W7 hq7 hn7 hr7 (k7 z hzA (by omega) _ hW'.d) hd7 fun h => ⟨.done, some q7, (upd_putObj (o' := .deferred none) hd7).1.get1 hr7 (by omega), by decide, h⟩
    · have hp := of_decide_eq_false hp
      exact hfin j G W' (by omega) hW' hD
  · rintro c W W' ⟨rfl, q, G, hq, hnA, hr, hd⟩ hD u
    rw [← hz5] at hD u ⊢
    have h6A : z5 + 1 ∈ A := by rw [hA]; simp
    have hr' := u.get1 hr (by omega)
    refine aft_ret ?_
    exact fin _ q G W' (hxb q G _ _ _ hq u fun k hk => ⟨by rw [hk]; exact hnA _ h6A, by omega⟩) hnA hr' (u.get1 hd (by omega)) hD fun h => ⟨.done, some q, (upd_putObj (o' := .deferred none) hD).1.get1 hr' (by omega), by decide, h⟩
end
end Go.Proofs.YtmooldhpiopcgaaGreatDoor
set_option linter.unusedSimpArgs false
set_option linter.unusedVariables false
set_option maxRecDepth 100000
namespace Go.Proofs.YtmooldhpiopcgaaGreatDoor
namespace Dq
open Go Go.Vx Dsk Trx
def dty : Obj → Bool
  | .map _ _ => true
  | .cells _ t _ => t == 107 || (t == 123 || (t == 5 || (t == 147 || (t == 9 || (t == 121 || (t == 127 || t == 3))))))
  | _ => false
section
variable {w w' : World} {S F F' : Nat → Prop} {d m ms ml : Nat} {f : Dir} {fb : List Nat} {ds : List Sl} {fs : List Fl} {sa : Sl} {vs : List Value} {D : Dk} {pl : Option Nat} {p : Int → Option Fault} {N : Nat}
theorem dty_cells {c : Array Value} {t : TypeId} {fr : Nat × Nat} {k : Nat} (h : w.heap[k]? = some (.cells c t fr)) (ht : dty (.cells #[] t fr) = true) : ∀ o, w.heap[k]? = some o → dty o = true := fun o ho => by
  rw [h] at ho; cases ho; exact ht
theorem dty_map {c : Array MapEntry} {t : Nat} {k : Nat} (h : w.heap[k]? = some (.map c t)) : ∀ o, w.heap[k]? = some o → dty o = true := fun o ho => by
  rw [h] at ho; cases ho; rfl
theorem dty_blk {s : Sl} {t : TypeId} {sz : Nat} {vs : List Value} (h : SlIn w s t sz vs) (ht : ∀ fr, dty (.cells #[] t fr) = true) {k : Nat} (hk : s.blk k) : ∀ o, w.heap[k]? = some o → dty o = true := by
  obtain ⟨c, fr, hc⟩ := h.blk_cells hk
  exact dty_cells hc (ht fr)
theorem DiskIn.thin (h : DiskIn w d F D) : DiskIn w d (fun k => F k ∧ ∀ o, w.heap[k]? = some o → dty o = true) D := by
  obtain ⟨ms, ml, sa, pl, vs, fb, ds, A⟩ := h
  obtain ⟨o1, c1, h1⟩ := A.seen.map_at
  obtain ⟨o2, c2, h2⟩ := A.lasts.map_at
  refine ⟨ms, ml, sa, pl, vs, fb, ds, A.box, A.seen, A.lasts, A.files, ⟨A.acts.row, A.acts.len, fun i v a hv ha => ?_⟩, ?_, A.ne, A.nes, A.nel, ⟨A.fd, dty_cells A.box rfl⟩, ⟨A.fms, dty_map h1⟩, ⟨A.fml, dty_map h2⟩, fun b hb => ⟨A.ffb b hb, ?_⟩, fun s hs k hk => ⟨A.fds s hs k hk, ?_⟩, fun k hk => ⟨A.fsa k hk, dty_blk A.acts.row.in (fun _ => rfl) hk⟩, fun k hk => A.lt k hk.1⟩
  · have := A.acts.at_ i v a hv ha
    cases a with
    | rm n => obtain ⟨b, g1, g2, g3⟩ := this; exact ⟨b, g1, g2, g3, dty_cells g2 rfl⟩
    | mk n i => obtain ⟨b1, b2, g1, g2, g3, g4, g5, g6⟩ := this; exact ⟨b1, b2, g1, g2, g3, ⟨g4, dty_cells g2 rfl⟩, ⟨g5, dty_cells g3 rfl⟩, g6⟩
    | mv a b i => obtain ⟨b1, b2, g1, g2, g3, g4, g5, g6⟩ := this; exact ⟨b1, b2, g1, g2, g3, ⟨g4, dty_cells g2 rfl⟩, ⟨g5, dty_cells g3 rfl⟩, g6⟩
  · rcases A.plan with h | ⟨m, es, g1, g2, g3, g4⟩
    · exact .inl h
    · obtain ⟨o3, c3, h3⟩ := MapK.heap_at g3
      refine .inr ⟨m, es, g1, ⟨g2, dty_map h3⟩, g3, fun k => ?_⟩
      have := g4 k
      revert this
      generalize kget es k = v
      generalize D.plan k = q
      intro this
      match v, q, this with
      | none, none, _ => trivial
      | some v, some g, ⟨s, h1, h2, h3, h4⟩ => exact ⟨s, h1, h2, fun k hk => ⟨h3 k hk, dty_blk h2 (fun _ => rfl) hk⟩, h4⟩
  · obtain ⟨i, s, f, _, _, _, g, _⟩ := A.files.get_fb hb
    exact dty_cells g rfl
  · obtain ⟨i, hi, hs'⟩ := List.mem_iff_getElem.1 hs
    obtain ⟨b, f, _, _, _, g⟩ := A.files.get_ds (i := i) (s := s) (by rw [List.getElem?_eq_getElem hi, hs'])
    exact dty_blk g.in (fun _ => rfl) hk
structure DS (w : World) (d : Nat) (F : Nat → Prop) (D : Dk) (N : Nat) : Prop where
  disk : DiskIn w d F D
  ok : DkOk D N
  ty : ∀ k, F k → ∀ o, w.heap[k]? = some o → dty o = true
  no0 : ¬ F 0
theorem DS.lt (h : DS w d F D N) : ∀ k, F k → k < w.heap.size := h.disk.lt
theorem DS.frame (h : DS w d F D N) (u : Upd S w w') (hS : ∀ k, F k → ¬ S k) : DS w' d F D N :=
  ⟨h.disk.frame u hS, h.ok, fun k hk o ho => h.ty k hk o (by rw [u.at_ k (h.lt k hk) (hS k hk)] at ho; exact ho), h.no0⟩
theorem DS.ext (h : DS w d F D N) (e : Ext w w') : DS w' d F D N := h.frame e fun _ _ => id
theorem DS.mono {M : Nat} (h : DS w d F D N) (hm : N ≤ M) : DS w d F D M := ⟨h.disk, h.ok.mono hm, h.ty, h.no0⟩
theorem DS.no {t : TypeId} (h : DS w d F D N) (ht : ∀ fr, dty (.cells #[] t fr) = false) : NoTy w F t := fun k hk c fr hc => by
  have h1 := h.ty k hk _ hc
  have h2 := ht fr
  unfold dty at h1 h2
  simp only at h1 h2
  rw [h1] at h2; cases h2
theorem DS.stay (h : DS w d F D N) (u : Upd F w w') : Stay w w' := Stay.upd u fun k hk o ho => by
  have := h.ty k hk o ho
  unfold dty at this
  unfold prot
  split at this
  · rfl
  · rename_i t _
    simp only [Bool.or_eq_true, beq_iff_eq] at this
    rcases this with h | h | h | h | h | h | h | h <;> subst h <;> rfl
  · cases this
theorem DS.of {D' : Dk} (h : DS w d F D N) (A : DiskIn w' d F' D') (ok : DkOk D' (N + 2)) (hF : ∀ k, F' k → F k ∨ w.heap.size ≤ k) (h0 : 0 < w.heap.size) : DS w' d (fun k => F' k ∧ ∀ o, w'.heap[k]? = some o → dty o = true) D' (N + 2) :=
  ⟨A.thin, ok, fun k hk => hk.2, fun h0' => by rcases hF 0 h0'.1 with hh | hh; exact h.no0 hh; omega⟩
theorem DS.pos (h : DS w d F D N) : 0 < w.heap.size := by have := h.lt d h.disk.fd; omega
theorem ErrIn.new {w0 : World} {v : Value} {op nm : ByteArray} {e : Int} (h : ErrIn w0 w F v op nm e) : ∀ b, v = .iface 99 (.pointer (some (at0 b))) → w0.heap.size ≤ b := fun b hb => by
  by_cases he : e = 0
  · rw [h.ok he] at hb; cases hb
  · obtain ⟨b', k, h1, _, h3, _⟩ := h.bad he
    rw [h1] at hb
    have : b' = b := by simpa using hb
    omega
abbrev EndsS (w : World) (d : Nat) (F : Nat → Prop) (N : Nat) (r : Dk × Int × Unit) (K : Value → World → Prop) : Prop :=
  ∀ F' w' v, ErrV w' v r.2.1 → DS w' d F' r.1 (N + 2) → Upd F w w' → (∀ k, F' k → F k ∨ w.heap.size ≤ k) → K v w'
theorem ends_s {op nm : ByteArray} {r : Dk × Int × Unit} {K : Value → World → Prop} (h : DS w d F D N) (ok : DkOk r.1 (N + 2)) (hK : EndsS w d F N r K) : Ends w d F op nm r K :=
  fun F' w' v hv A u hF => hK _ w' v hv.v (h.of A ok hF h.pos) u fun k hk => hF k hk.1
theorem makeS (h : DS w d F D N) (hN : N + 2 ≤ 2 ^ 30) {n : Nm} {K : Value → World → Prop} (hK : EndsS w d F N (callMake D n) K) : callT Tryz.prog 137 #[.pointer (some (at0 d)), .string n] (.one (.one .any)) K w :=
  make_call h.disk h.ok hN (ends_s h (ok_callMake h.ok n) hK)
theorem syncS (h : DS w d F D N) (hN : N + 2 ≤ 2 ^ 30) {n : Nm} {K : Value → World → Prop} (hK : EndsS w d F N (callSync D n) K) : callT Tryz.prog 139 #[.pointer (some (at0 d)), .string n] (.one (.one .any)) K w :=
  sync_call h.disk h.ok (by omega) (ends_s h (ok_callSync h.ok n) hK)
theorem syncdirS (h : DS w d F D N) (hN : N + 2 ≤ 2 ^ 30) {K : Value → World → Prop} (hK : EndsS w d F N (callSyncDir D) K) : callT Tryz.prog 76 #[.pointer (some (at0 d))] (.one (.one .any)) K w :=
  syncdir_call h.disk h.ok (by omega) (ends_s h (ok_callSyncDir h.ok) hK)
theorem removeS (h : DS w d F D N) (hN : N + 2 ≤ 2 ^ 30) {n : Nm} {K : Value → World → Prop} (hK : EndsS w d F N (callRemove D n) K) : callT Tryz.prog 75 #[.pointer (some (at0 d)), .string n] (.one (.one .any)) K w :=
  remove_call h.disk h.ok hN (ends_s h (ok_callRemove h.ok n) hK)
theorem renameS (h : DS w d F D N) (hN : N + 2 ≤ 2 ^ 30) {n t : Nm} {K : Value → World → Prop} (hK : EndsS w d F N (callRename D n t) K) : callT Tryz.prog 140 #[.pointer (some (at0 d)), .string n, .string t] (.one (.one .any)) K w :=
  rename_call h.disk h.ok hN (ends_s h (ok_callRename h.ok n t) hK)
theorem appendS (h : DS w d F D N) (hN : N + 2 ≤ 2 ^ 30) {n : Nm} {x : Sl} {l : List UInt8} (hx : Bytes w x l) (hxb : Lie (fun k => k < w.heap.size ∧ ¬ F k) x) {K : (Int × Value × Unit) → World → Prop}
    (hK : ∀ F' w' v, ErrV w' v (callAppend D n l).2.1 → DS w' d F' (callAppend D n l).1 (N + 2) → Upd F w w' → (∀ k, F' k → F k ∨ w.heap.size ≤ k) → (∀ b, v = .iface 99 (.pointer (some (at0 b))) → w.heap.size ≤ b) → K ((callAppend D n l).2.2, v, ()) w') :
    callT Tryz.prog 169 #[.pointer (some (at0 d)), .string n, .slice x.a x.len x.cap] (.tup [(.one (.int .i64)), (.one .any)]) K w :=
  append_call h.disk h.ok hN hx hxb fun F' w' v hv A u hF => hK _ w' v hv.v (h.of A (ok_callAppend h.ok n l) hF h.pos) u (fun k hk => hF k hk.1) hv.new
theorem stampS (h : DS w d F D N) (hN : N + 2 ≤ 2 ^ 30) {n : Nm} {K : ((Int × Int × Int × Unit) × Value × Unit) → World → Prop}
    (hK : ∀ F' w' v, ErrV w' v (callStamp D n).2.1 → DS w' d F' (callStamp D n).1 (N + 2) → Upd F w w' → (∀ k, F' k → F k ∨ w.heap.size ≤ k) → K (((callStamp D n).2.2.1, (callStamp D n).2.2.2.1, (callStamp D n).2.2.2.2, ()), v, ()) w') :
    callT Tryz.prog 34 #[.pointer (some (at0 d)), .string n] (.tup [(.agg c57), (.one .any)]) K w :=
  stamp_call h.disk h.ok hN fun F' w' v hv A u hF => hK _ w' v hv.v (h.of A (ok_callStamp h.ok n) hF h.pos) u fun k hk => hF k hk.1
theorem readS (h : DS w d F D N) (hN : N + 2 ≤ 2 ^ 30) {n : Nm} {K : (Sl × Value × Unit) → World → Prop}
    (hK : ∀ F' w' s v, ErrV w' v (callRead D n).2.1 → DS w' d F' (callRead D n).1 (N + 2) → Upd F w w' → (∀ k, F' k → F k ∨ w.heap.size ≤ k) → BytesO w' w.heap.size s (callRead D n).2.2 → (∀ k, s.blk k → ¬ F' k) → K (s, v, ()) w') :
    callT Tryz.prog 49 #[.pointer (some (at0 d)), .string n] (.tup [(.one .sl), (.one .any)]) K w :=
  read_call h.disk h.ok hN fun F' w' s v hv A u hF hs hb => hK _ w' s v hv.v (h.of A (ok_callRead h.ok n) hF h.pos) u (fun k hk => hF k hk.1) hs fun k hk hk' => hb k hk hk'.1
theorem putS (h : DS w d F D N) (hN : N + 2 ≤ 2 ^ 30) {n : Nm} {x : Sl} {l : List UInt8} (hx : Bytes w x l) (hxb : ∀ k, x.blk k → k < w.heap.size ∧ ¬ F k) {K : Value → World → Prop}
    (hK : ∀ F' w' v, ErrV w' v (putR D n l).2 → DS w' d F' (putR D n l).1 (N + 2) → Upd F w w' → (∀ k, F' k → F k ∨ w.heap.size ≤ k) → K v w') :
    callT Tryz.prog 32 #[.pointer (some (at0 d)), .string n, .slice x.a x.len x.cap] (.one (.one .any)) K w :=
  put_call h.disk h.ok hN hx hxb fun F' w' v hv A u hF => hK _ w' v hv.v (h.of A ((ok_put h.ok n l).mono (Nat.le_succ _)) hF h.pos) u fun k hk => hF k hk.1
theorem ok_new {space : Int} (h0 : 0 ≤ space) (h1 : space ≤ 1048576) : DkOk (newD space) 0 :=
  ⟨⟨h0, h1⟩, fun i f hf => by simp [newD] at hf, Nat.le_refl _, fun k => by
    have : onAll ((newD space).acts.take k) (newD space).lasts = fun _ => none := by simp [newD, onAll]
    rw [this]; exact ⟨fun _ _ h => (by cases h), ⟨[], ⟨List.nodup_nil, fun n => by simp⟩, by simp⟩, fun _ _ _ h => (by cases h), fun _ _ h => (by cases h)⟩, ⟨Int.le_refl 0, Int.le_refl 0⟩, Nat.le_refl _⟩
theorem newS {space : Int} (h0 : 0 ≤ space) (h1 : space ≤ 1048576) (hp : 0 < w.heap.size) {K : (Option Addr × Value × Unit) → World → Prop}
    (hK : ∀ d F w', DS w' d F (newD space) 0 → Ext w w' → (∀ k, F k → w.heap.size ≤ k) → K (some (at0 d), .nilIface, ()) w') : callT Tryz.prog 17 #[.int .i64 space] (.tup [(.one .ptr), (.one .any)]) K w :=
  new_call h0 h1 fun d F w' A e hF => hK d _ w' ⟨A.thin, ok_new h0 h1, fun k hk => hk.2, fun h => by have := hF 0 h.1; omega⟩ e fun k hk => hF k hk.1
theorem bclone_call {s : Sl} {l : List UInt8} (h : Bytes w s l) (hl : l.length ≤ 2 ^ 30) {K : Sl → World → Prop} (hK : ∀ s' w', BytesO w' w.heap.size s' l → Ext w w' → K s' w') : callT Tryz.prog 57 #[.slice s.a s.len s.cap] (.one (.one .sl)) K w := by
  refine F57_calls (a0 := s) ?_
  unfold F57
  have hl1 := h.len1
  rw [List.length_map] at hl1
  refine sif_r (fun h0 => ?_) fun h0 => ?_
  · have hn : s.a = none := by simpa using h0
    have : l = [] := by
      rcases h.at_ with ⟨h1, h2⟩ | ⟨t, h2⟩
      · simpa using h2
      · rcases h2.at_ with ⟨_, hc⟩ | ⟨b, off, c, fr, ha, _⟩
        · have := h2.le
          rw [hc] at this
          exact List.length_eq_zero_iff.1 (by omega)
        · rw [hn] at ha; cases ha
    subst this
    exact hK _ w (SlOwn.nil _ _ _ _) (Ext.refl w)
  · refine newO_r fun b1 w1 e1 n1 hb1 hz1 => ?_
    have ho : SlOwn w1 w.heap.size ⟨some (at0 b1), 0, 0⟩ 5 1 [] := ⟨rfl, Nat.le_refl _, .inr ⟨b1, 0, #[], rfl, by omega, n1, Nat.le_refl _, fun j v hj => by simp at hj⟩⟩
    refine append_rx (s := ⟨some (at0 b1), 0, 0⟩) (x := s) EB uB ho (h.ext e1) (bv_one l) (by dsimp only; omega) (by omega) fun s' w2 hs' hl' u2 _ => ?_
    rw [List.nil_append] at hs'
    exact hK s' w2 hs' (e1.step u2 fun k hk => by obtain ⟨p, hp, rfl⟩ := hk; cases hp; show w.heap.size ≤ b1; omega)
end
end Dq
end Go.Proofs.YtmooldhpiopcgaaGreatDoor
set_option linter.unusedSimpArgs false
set_option linter.unusedVariables false
set_option maxRecDepth 100000
namespace Go.Proofs.YtmooldhpiopcgaaGreatDoor
namespace Dq
open Go Go.Vx Dsk Cdc Trx
theorem cutK_fuel : ∀ (n m : Nat) (l : List UInt8), l.length ≤ n → l.length ≤ m → cutK n l = cutK m l
  | 0, m, l, h, _ => by
    obtain rfl : l = [] := List.length_eq_zero_iff.1 (by omega)
    cases m <;> simp [cutK]
  | n + 1, 0, l, _, h => by
    obtain rfl : l = [] := List.length_eq_zero_iff.1 (by omega)
    simp [cutK]
  | n + 1, m + 1, l, h1, h2 => by
    by_cases hl : l = []
    · simp [cutK, hl]
    · have : 0 < l.length := List.length_pos_iff.2 hl
      simp only [cutK, if_neg hl]
      rw [cutK_fuel n m (l.drop 1024) (by rw [List.length_drop]; omega) (by rw [List.length_drop]; omega)]
noncomputable def fillA (n : Nm) (T : List UInt8) (D : Dk) : Dk × Int := fillP n (cutK T.length T) D
theorem fillA_nil (n : Nm) (D : Dk) : fillA n [] D = (D, 0) := rfl
theorem fillA_cons {n : Nm} {T : List UInt8} {D : Dk} (h : T ≠ []) : fillA n T D = if (callAppend D n (T.take 1024)).2.1 = 0 then fillA n (T.drop 1024) (callAppend D n (T.take 1024)).1 else ((callAppend D n (T.take 1024)).1, (callAppend D n (T.take 1024)).2.1) := by
  have hl : 0 < T.length := List.length_pos_iff.2 h
  obtain ⟨k, hk⟩ : ∃ k, T.length = k + 1 := ⟨T.length - 1, by omega⟩
  unfold fillA
  rw [hk]
  simp only [cutK, if_neg h, fillP]
  rw [cutK_fuel k (T.drop 1024).length (T.drop 1024) (by rw [List.length_drop]; omega) (Nat.le_refl _)]
section
variable {w w' : World} {S F F' : Nat → Prop} {d : Nat} {D : Dk} {N : Nat} {p : Nat} {e : Enc} {lim na : Nat} {O : Nat → Prop} {M : Parts}
structure FI (w : World) (F : Nat → Prop) (d N f b1 b2 b3 b8 : Nat) (cs : Array Value) (n : Nm) (T mk B : List UInt8) (D : Dk) (j : Nat) (G : Nat → Prop) (W : World) (fl : Nat) (Fd : Nat → Prop) (Df : Dk) (s : Sl) : Prop where
  disk : DS W d Fd Df (N + 2 * fl)
  fg : ∀ k, Fd k → G k
  g8 : G b8
  g3 : G b3
  gs : ∀ k, s.blk k → G k
  gw : ∀ k, G k → F k ∨ w.heap.size ≤ k
  n1 : W.heap[b1]? = some (.cells #[.pointer (some (at0 f))] 29 (0, 0))
  n2 : W.heap[b2]? = some (.cells #[.string n] 9 (0, 0))
  n3 : W.heap[b3]? = some (.cells #[.nilIface] 26 (0, 0))
  n8 : W.heap[b8]? = some (.cells #[.slice s.a s.len s.cap] 30 (0, 0))
  nf : W.heap[f]? = some (.cells cs 110 (0, 0))
  row : BytesO W w.heap.size s ((mk ++ B.take (1024 * j)).drop (1024 * fl))
  no8 : ¬ Fd b8
  no3 : ¬ Fd b3
  nos : ∀ k, s.blk k → ¬ Fd k
  lo : 1024 * fl ≤ (mk ++ B.take (1024 * j)).length
  hi : (mk ++ B.take (1024 * j)).length < 1024 * (fl + 1)
  left : fillA n T D = fillA n (T.drop (1024 * fl)) Df
  upd : Upd (fun k => F k ∨ w.heap.size ≤ k) w W
  no2 : ¬ Fd b2
  fw : ∀ k, Fd k → F k ∨ w.heap.size ≤ k
theorem FI.move {f b1 b2 b3 b8 : Nat} {cs : Array Value} {n : Nm} {T mk B : List UInt8} {j : Nat} {G : Nat → Prop} {W W' : World} {fl : Nat} {Fd : Nat → Prop} {Df : Dk} {s : Sl} (h : FI w F d N f b1 b2 b3 b8 cs n T mk B D j G W fl Fd Df s) (u : Upd S W W') (hS : ∀ k, S k → ¬ G k) (h1 : ¬ S b1) (h2 : ¬ S b2) (hf : ¬ S f) (hw : ∀ k, S k → w.heap.size ≤ k) :
    FI w F d N f b1 b2 b3 b8 cs n T mk B D j G W' fl Fd Df s :=
  ⟨h.disk.frame u fun k hk hh => hS k hh (h.fg k hk), h.fg, h.g8, h.g3, h.gs, h.gw, u.get h.n1 h1, u.get h.n2 h2, u.get h.n3 fun hh => hS _ hh h.g3, u.get h.n8 fun hh => hS _ hh h.g8, u.get h.nf hf, h.row.upd u fun k _ hk hh => hS k hh (h.gs k hk), h.no8, h.no3, h.nos, h.lo, h.hi, h.left, h.upd.trans (u.mono fun k _ hk => .inr (hw k hk)), h.no2, h.fw⟩
structure FB (w : World) (F : Nat → Prop) (d N b3 : Nat) (n : Nm) (T : List UInt8) (D : Dk) (G : Nat → Prop) (W : World) (Fd : Nat → Prop) (v : Value) : Prop where
  disk : DS W d Fd (fillA n T D).1 (N + 4000)
  fg : ∀ k, Fd k → G k
  g3 : G b3
  n3 : W.heap[b3]? = some (.cells #[v] 26 (0, 0))
  er : ErrV W v (fillA n T D).2
  gv : ∀ b, v = .iface 99 (.pointer (some (at0 b))) → G b
  upd : Upd (fun k => F k ∨ w.heap.size ≤ k) w W
  fw : ∀ k, Fd k → F k ∨ w.heap.size ≤ k
theorem FB.move {b3 : Nat} {n : Nm} {T : List UInt8} {G : Nat → Prop} {W W' : World} {Fd : Nat → Prop} {v : Value} (h : FB w F d N b3 n T D G W Fd v) (u : Upd S W W') (hS : ∀ k, S k → ¬ G k) (hw : ∀ k, S k → w.heap.size ≤ k) : FB w F d N b3 n T D G W' Fd v :=
  ⟨h.disk.frame u fun k hk hh => hS k hh (h.fg k hk), h.fg, h.g3, u.get h.n3 fun hh => hS _ hh h.g3, ⟨h.er.ok, fun he => let ⟨b, op, nm, st, q1, q2⟩ := h.er.bad he; ⟨b, op, nm, st, q1, u.get q2 fun hh => hS _ hh (h.gv b q1)⟩⟩, h.gv, h.upd.trans (u.mono fun k _ hk => .inr (hw k hk)), h.fw⟩
set_option maxHeartbeats 2000000 in
theorem fill_call (A : DS w d F D N) (hN : N + 5000 ≤ 2 ^ 30) (h : Txt w p e lim na O M) (hO : ∀ k, O k → ¬ F k) {f : Nat} {cs : Array Value} (hf : w.heap[f]? = some (.cells cs 110 (0, 0))) {sm : Sl} (c0 : cs[0]? = some (.pointer (some (at0 d)))) (c2 : cs[2]? = some (.slice sm.a sm.len sm.cap)) (hfF : ¬ F f)
    {mk : List UInt8} (hm : Bytes w sm mk) (hml : mk.length < 1024) {n : Nm} {K : Value → World → Prop}
    (hK : ∀ F' w' v, ErrV w' v (fillA n (mk ++ bOf M) D).2 → DS w' d F' (fillA n (mk ++ bOf M) D).1 (N + 4000) → Upd F w w' → (∀ k, F' k → F k ∨ w.heap.size ≤ k) → K v w') :
    callT Tryz.prog 138 #[.pointer (some (at0 f)), .string n, .pointer (some (at0 p))] (.one (.one .any)) K w := by
  refine F138_calls ?_
  unfold F138
  have hBl := bOf_len e M
  have hsz := h.sz
  have hfl := lt_of_heap hf
  have hAlt := A.lt
  obtain ⟨B, hBd⟩ : ∃ B, B = bOf M := ⟨_, rfl⟩
  have hBlen : B.length ≤ 1048576 := by rw [hBd]; omega
  rw [← hBd] at hK
  refine newO_r fun b1 w1 e1 n1 hb1 hz1 => newO_r fun b2 w2 e2 n2 hb2 hz2 => newO_r fun b3 w3 e3 n3 hb3 hz3 => ?_
  have e13 := (e1.trans e2).trans e3
  refine ld_r ((e2.trans e3).ext_get n1) (x := some (at0 f)) rfl (nn_some ?_)
  rw [addr_add]
  refine ld_r (e13.ext_get hf) (off := 2) (x := sm) c2 (bclone_call (hm.ext e13) (by omega) fun s0 w4 r4 e4 => newO_r fun b8 w5 e5 n5 hb5 hz5 => stC_r n5 Nat.one_pos fun w6 u6 n6 hz6 => ?_)
  have e46 : Ext w4 w6 := e5.step u6 fun k hk => by omega
  have e36 := e4.trans e46
  have e06 := e13.trans e36
  have hsz4 := e4.size
  obtain ⟨t, ht, hi, hff, rd, hOt⟩ := h.tree2
  refine F168_calls ?_
  unfold F168
  refine newO_r fun c1 w7 e7 n7 hc1 hz7 => rd (e06.trans e7) (newO_r fun c4 w8 e8 n8 hc4 hz8 => aggSt_r n8 rfl rfl (by decide) fun w9 u9 n9 hz9 => ?_)
  have e79 : Ext w7 w9 := e8.step u9 fun k hk => by omega
  have e69 := e7.trans e79
  have e09 := e06.trans e69
  have hz79 := e79.size
  have m1 := (e36.trans e69).ext_get ((e2.trans e3).ext_get n1)
  have m2 := (e36.trans e69).ext_get (e3.ext_get n2)
  have m3 := (e36.trans e69).ext_get n3
  have m8 := e69.ext_get n6
  have mf := e09.ext_get hf
  have mc1 := e79.ext_get n7
  have row0 : BytesO w9 w.heap.size s0 mk := ((r4.ext e46).ext e69).mono (by omega)
  have s0lt : ∀ k, s0.blk k → w.heap.size ≤ k ∧ k < w4.heap.size := fun k hk => ⟨by have := r4.blk_ge hk; omega, r4.in.blk_lt hk⟩
  obtain ⟨G0, hG0⟩ : ∃ G0 : Nat → Prop, G0 = fun k => F k ∨ k = b8 ∨ k = b3 ∨ s0.blk k := ⟨_, rfl⟩
  have hG0lt : ∀ k, G0 k → k < w9.heap.size := fun k hk => by
    rw [hG0] at hk
    rcases hk with hk | hk | hk | hk
    · have := hAlt k hk; omega
    · omega
    · omega
    · have := (s0lt k hk).2; omega
  have hb8s : ¬ s0.blk b8 := fun hh => by have := (s0lt _ hh).2; omega
  have hb3s : ¬ s0.blk b3 := fun hh => by have := r4.blk_ge hh; omega
  have hc1G : ¬ G0 c1 := fun hh => by
    rw [hG0] at hh
    rcases hh with hk | hk | hk | hk
    · have := hAlt _ hk; omega
    · omega
    · omega
    · have := (s0lt _ hk).2; omega
  have hOG : ∀ x ∈ t.items, ∀ k, x.bytes.blk k → ¬ G0 k := fun x hx k hk hh => by
    have hok := hOt x hx k hk
    have hol := h.own k hok
    rw [hG0] at hh
    rcases hh with hh | hh | hh | hh
    · exact hO k hok hh
    · omega
    · omega
    · have := (s0lt k hh).1; omega
  refine chunks_range (t := t) (c1 := c1) (c4 := c4) (G0 := G0) (e := e) (M := M) (fun _ => rfl) mc1 n9 (ht.ext e09) (hi.ext e09) hff hG0lt hc1G hOG (by omega)
    (Inv := fun j G W => ∃ fl Fd Df s, FI w F d N f b1 b2 b3 b8 cs n (mk ++ B) mk B D j G W fl Fd Df s) (Brk := fun q G W => q = .ret ∧ ∃ Fd v, FB w F d N b3 n (mk ++ B) D G W Fd v) ?_ ?_ ?_ ?_ ?_ ?_
  · intro W x hW
    refine ⟨0, F, D, s0, A.ext (e09.trans x), ?_, ?_, ?_, ?_, ?_, x.ext_get m1, x.ext_get m2, x.ext_get m3, x.ext_get m8, x.ext_get mf, by simpa using row0.ext x, fun hh => ?_, fun hh => ?_, fun k hk hh => ?_, by simp, by simpa using hml, by simp, Upd.of_ext (e09.trans x), fun hh => ?_, fun k hk => .inl hk⟩
    · intro k hk; rw [hG0]; exact .inl hk
    · rw [hG0]; exact .inr (.inl rfl)
    · rw [hG0]; exact .inr (.inr (.inl rfl))
    · intro k hk; rw [hG0]; exact .inr (.inr (.inr hk))
    · intro k hk
      rw [hG0] at hk
      rcases hk with hk | hk | hk | hk
      · exact .inl hk
      · exact .inr (by omega)
      · exact .inr (by omega)
      · exact .inr (s0lt k hk).1
    · have := hAlt _ hh; omega
    · have := hAlt _ hh; omega
    · have := hAlt _ hh; have := (s0lt k hk).1; omega
    · have := hAlt _ hh; omega
  · rintro j G S W W' ⟨fl, Fd, Df, s, I⟩ u hS
    exact ⟨fl, Fd, Df, s, I.move u (fun k hk => (hS k hk).1) (fun hh => by have := (hS _ hh).2; omega) (fun hh => by have := (hS _ hh).2; omega) (fun hh => by have := (hS _ hh).2; omega) fun k hk => by have := (hS k hk).2; omega⟩
  · rintro q G S W W' ⟨rfl, Fd, v, I⟩ u hS
    exact ⟨rfl, Fd, v, I.move u (fun k hk => (hS k hk).1) fun k hk => by have := (hS k hk).2; omega⟩
  · rintro rc j sc G R W hne ⟨fl, Fd, Df, s, I⟩ hGlt hGl hsc hscG hr hT hF
    rw [← hBd] at hne hsc
    obtain ⟨l, hl⟩ : ∃ l, l = w9.heap.size + 1 := ⟨_, rfl⟩
    rw [← hl] at hGl hr hT hF ⊢
    have hlW := lt_of_heap hr
    refine ⟨hr, ?_⟩
    obtain ⟨u1, r1⟩ := upd_putObj (o' := .loop (rc .busy none)) hr
    have st1 : Stay W (W.putObj l (.loop (rc .busy none))) := Stay.upd u1 fun k hk o ho => by subst hk; rw [hr] at ho; cases ho; rfl
    have I1 := I.move u1 (fun k hk => by rw [hk]; exact hGl) (by omega) (by omega) (by omega) (fun k hk => by omega)
    have hsc1 := hsc.upd u1 fun k hk hh => by obtain ⟨c, fr, hc⟩ := hsc.blk_cells hk; rw [hh, hr] at hc; cases hc
    have hzu1 := u1.size
    generalize W.putObj l (.loop (rc .busy none)) = W1 at *
    have hsl1 := I1.row.len1
    have hscl := hsc1.len1
    rw [List.length_map] at hscl
    have hckl : (chunkOf B j).length ≤ 1024 := by unfold chunkOf; rw [List.length_take]; omega
    have hlo := I1.lo
    have hhi := I1.hi
    have htn : mk ++ B.take (1024 * (j + 1)) = (mk ++ B.take (1024 * j)) ++ chunkOf B j := by
      unfold chunkOf
      rw [show 1024 * (j + 1) = 1024 * j + 1024 by omega, List.take_add, List.append_assoc]
    obtain ⟨T0, hT0⟩ : ∃ T0, T0 = mk ++ B.take (1024 * j) := ⟨_, rfl⟩
    have row1 := I1.row
    rw [← hT0] at hsl1 hlo hhi htn row1
    rw [List.length_map, List.length_drop] at hsl1
    have hdr : T0.drop (1024 * fl) ++ chunkOf B j = (mk ++ B.take (1024 * (j + 1))).drop (1024 * fl) := by
      rw [htn, List.drop_append_of_le_length hlo]
    obtain ⟨R1, hR1⟩ : ∃ R1, R1 = (mk ++ B.take (1024 * (j + 1))).drop (1024 * fl) := ⟨_, rfl⟩
    have hR1l : R1.length = (mk ++ B.take (1024 * (j + 1))).length - 1024 * fl := by rw [hR1, List.length_drop]
    have htl : (mk ++ B.take (1024 * (j + 1))).length = T0.length + (chunkOf B j).length := by rw [htn, List.length_append]
    have hpre : R1 <+: (mk ++ B).drop (1024 * fl) := by
      rw [hR1]
      obtain ⟨Q, hQ⟩ := (List.prefix_append_right_inj mk).2 (List.take_prefix (1024 * (j + 1)) B)
      exact ⟨Q, by rw [← List.drop_append_of_le_length (by rw [htl]; omega), hQ]⟩
    have hTl : (mk ++ B).length ≤ 1048576 + 1024 := by rw [List.length_append]; omega
    have hprel := hpre.length_le
    rw [List.length_drop] at hprel
    refine ld_r I1.n8 (x := s) rfl (append_rx (s := s) (x := sc) EB uB row1 hsc1.x (bv_one _) (by omega) (by have := (u1.size); have := I.upd.size; omega) fun s1 W2 r2 hl2 u2 hb2 => ?_)
    have hbv : bv (T0.drop (1024 * fl)) ++ bv (chunkOf B j) = bv R1 := by rw [hR1, ← hdr]; exact List.map_append.symm
    rw [hbv] at r2
    have bc : ∀ k, s.blk k → ∃ c fr, W1.heap[k]? = some (.cells c 5 fr) := fun k hk => row1.in.blk_cells hk
    have ns8 : ¬ s.blk b8 := fun hh => by obtain ⟨c, fr, hc⟩ := bc _ hh; rw [I1.n8] at hc; cases hc
    have ns3 : ¬ s.blk b3 := fun hh => by obtain ⟨c, fr, hc⟩ := bc _ hh; rw [I1.n3] at hc; cases hc
    have nsl : ¬ s.blk l := fun hh => by obtain ⟨c, fr, hc⟩ := bc _ hh; rw [r1] at hc; cases hc
    have ns1 : ¬ s.blk b1 := fun hh => by obtain ⟨c, fr, hc⟩ := bc _ hh; rw [I1.n1] at hc; cases hc
    have ns2 : ¬ s.blk b2 := fun hh => by obtain ⟨c, fr, hc⟩ := bc _ hh; rw [I1.n2] at hc; cases hc
    have nsf : ¬ s.blk f := fun hh => by obtain ⟨c, fr, hc⟩ := bc _ hh; rw [I1.nf] at hc; cases hc
    have st2 : Stay W1 W2 := Stay.upd u2 fun k hk o ho => by obtain ⟨c, fr, hc⟩ := bc k hk; rw [hc] at ho; cases ho; rfl
    have m8 := u2.get I1.n8 ns8
    refine stC_r m8 Nat.one_pos fun W3 u3 n8 _ => ?_
    have n8 : W3.heap[b8]? = some (.cells #[.slice s1.a s1.len s1.cap] 30 (0, 0)) := n8
    have st3 : Stay W2 W3 := fr_none m8 rfl u3
    have row3 : BytesO W3 w.heap.size s1 R1 := r2.upd u3 fun k _ hk hh => by obtain ⟨c, fr, hc⟩ := r2.in.blk_cells hk; rw [hh, m8] at hc; cases hc
    have r3 : W3.heap[l]? = some (.loop (rc .busy none)) := u3.get1 (u2.get r1 nsl) (fun hh => by have := I1.n8; rw [← hh, r1] at this; cases this)
    have disk3 : DS W3 d Fd Df (N + 2 * fl) := (I1.disk.frame u2 fun k hk hh => I1.nos k hh hk).frame u3 fun k hk hh => I1.no8 (hh ▸ hk)
    have n1' := u3.get1 (u2.get I1.n1 ns1) (by omega)
    have n2' := u3.get1 (u2.get I1.n2 ns2) (by omega)
    have n3' := u3.get1 (u2.get I1.n3 ns3) (by omega)
    have nf' := u3.get1 (u2.get I1.nf nsf) (by omega)
    have s1F : ∀ k, s1.blk k → ¬ Fd k := fun k hk hh => by
      rcases hb2 k hk with h' | h'
      · exact I1.nos k h' hh
      · have := I1.disk.lt k hh; omega
    have U3 : Upd (fun k => G k ∨ k = l) W W3 := ((u1.mono fun k _ hk => .inr hk).trans (u2.mono fun k _ hk => .inl (I1.gs k hk))).trans (u3.mono fun k _ hk => .inl (hk ▸ I1.g8))
    have S3 : Stay W W3 := (st1.trans st2).trans st3
    have zW := I.upd.size
    have z2 := u2.size
    have z3 := u3.size
    have hrl := row3.len1
    rw [List.length_map] at hrl
    have gW : ∀ k, G k → F k ∨ w.heap.size ≤ k := I.gw
    have UW : ∀ W', Upd (fun k => G k ∨ k = l) W W' → Upd (fun k => F k ∨ w.heap.size ≤ k) w W' := fun W' u => I.upd.trans (u.mono fun k _ hk => hk.elim (gW k) fun hh => .inr (by omega))
    refine ld_r n8 (x := s1) rfl (sif_r (fun hfull => ?_) fun hpart => ?_)
    · have hfull := of_decide_eq_true hfull
      have hR1g : 1024 ≤ R1.length := by omega
      refine drew_r fun W4 e4 _ => ld_r (e4.ext_get n1') (x := some (at0 f)) rfl (nn_some (ld_r (e4.ext_get nf') (off := 0) (x := some (at0 d)) c0 (ld_r (e4.ext_get n2') (x := n) rfl (ld_r (e4.ext_get n8) (x := s1) rfl ?_))))
      have hcap := row3.in.le
      refine slc_r (row3.in.ext e4) (by omega) (by omega) (by omega) (by omega) (by omega) fun x23 hx23 hl23 _ hb23 => ?_
      have hbv23 : ((bv R1).drop (Int.toNat 0 * 1)).take ((Int.toNat 1024 - Int.toNat 0) * 1) = bv (((mk ++ B).drop (1024 * fl)).take 1024) := by
        have e1 : R1.take 1024 = ((mk ++ B).drop (1024 * fl)).take 1024 := by
          obtain ⟨Q, hQ⟩ := hpre
          rw [← hQ, List.take_append_of_le_length hR1g]
        rw [← e1]; simp [List.map_take]
      rw [hbv23] at hx23
      obtain ⟨blk, hblk⟩ : ∃ blk, blk = ((mk ++ B).drop (1024 * fl)).take 1024 := ⟨_, rfl⟩
      rw [← hblk] at hx23
      have hne : (mk ++ B).drop (1024 * fl) ≠ [] := fun hh => by have := congrArg List.length hh; rw [List.length_drop, List.length_nil] at this; omega
      have hcons := fillA_cons (n := n) (D := Df) hne
      rw [← hblk, List.drop_drop, show 1024 * fl + 1024 = 1024 * (fl + 1) by omega] at hcons
      have hleft := I.left
      refine appendS (disk3.ext e4) (by omega) hx23.x (.inr fun k hk => ⟨hx23.blk_lt hk, s1F k (hb23 k hk)⟩) fun F5 W5 v5 hv5 disk5 u5 hF5 hnew5 => ?_
      have z4 := e4.size
      have z5 := u5.size
      have g5 : ∀ k, Fd k → G k := I.fg
      have n35 := u5.get (e4.ext_get n3') I1.no3
      have n85 := u5.get (e4.ext_get n8) I1.no8
      have r5 := u5.get (e4.ext_get r3) fun hh => hGl (g5 _ hh)
      have n15 := u5.get (e4.ext_get n1') (fun hh => by rcases I1.fw _ hh with h' | h'; have := hAlt _ h'; omega; have := disk3.ty _ hh _ n1'; cases this)
      have n25 : W5.heap[b2]? = some (.cells #[.string n] 9 (0, 0)) := u5.get (e4.ext_get n2') I1.no2
      have nf5 := u5.get (e4.ext_get nf') (fun hh => by rcases I1.fw _ hh with h' | h'; exact hfF h'; omega)
      have U5 : Upd (fun k => G k ∨ k = l) W W5 := (U3.trans (Upd.of_ext e4)).trans (u5.mono fun k _ hk => .inl (g5 k hk))
      have S5 : Stay W W5 := (S3.trans (Stay.ext e4)).trans ((disk3.ext e4).stay u5)
      refine hv5.nenil (sif_r (fun he => ?_) fun he => ?_)
      · have he := of_decide_eq_true he
        rw [if_neg he] at hcons
        rw [hcons] at hleft
        refine chk_r hv5.one (stC_r n35 Nat.one_pos fun W6 u6 n6 _ => ?_)
        have n6 : W6.heap[b3]? = some (.cells #[v5] 26 (0, 0)) := n6
        have r6 := u6.get1 r5 (fun hh => by rw [← hh, r5] at n35; cases n35)
        obtain ⟨u7, r7⟩ := upd_putObj (o' := .loop (rc .done (some .ret))) r6
        have st7 : Stay W6 (W6.putObj l (.loop (rc .done (some .ret)))) := Stay.upd u7 fun k hk o ho => by subst hk; rw [r6] at ho; cases ho; rfl
        have U7 : Upd (fun k => G k ∨ k = l) W (W6.putObj l (.loop (rc .done (some .ret)))) := (U5.trans (u6.mono fun k _ hk => .inl (hk ▸ I.g3))).trans (u7.mono fun k _ hk => .inr hk)
        have z6 := u6.size
        have z7 := u7.size
        refine ⟨⟨_, _, r6⟩, hF .ret (fun k => (G k ∨ W.heap.size ≤ k) ∧ k < (W6.putObj l (.loop (rc .done (some .ret)))).heap.size) _ ((S5.trans (fr_none n35 rfl u6)).trans st7) U7 (fun k hk => hk.1) (fun k hk => hk.2) ⟨rfl, F5, v5, ?_⟩ r7⟩
        have n6l : b3 ≠ l := fun hh => by rw [hh, r6] at n6; cases n6
        have f5G : ∀ k, F5 k → G k ∨ W.heap.size ≤ k := fun k hk => (hF5 k hk).elim (fun hh => .inl (g5 k hh)) fun hh => .inr (by omega)
        have no3 : ¬ F5 b3 := fun hh => (hF5 _ hh).elim I1.no3 fun hh => by have := lt_of_heap (e4.ext_get n3'); omega
        have nol : ¬ F5 l := fun hh => (hF5 _ hh).elim (fun hh => hGl (g5 _ hh)) fun hh => by omega
        have dk7 := (disk5.frame u6 fun k hk hh => no3 (hh ▸ hk)).frame u7 fun k hk hh => nol (hh ▸ hk)
        have gb3 := lt_of_heap n6
        refine ⟨?_, fun k hk => ⟨f5G k hk, dk7.lt k hk⟩, ⟨.inl I.g3, by omega⟩, u7.get1 n6 n6l, ?_, ?_, UW _ U7, fun k hk => (hF5 k hk).elim (I.fw k) fun hh => .inr (by omega)⟩
        · rw [hleft]; exact dk7.mono (by omega)
        · rw [hleft]
          exact (hv5.upd u6 (NoTy.box n35 (by decide))).upd u7 fun k hk c fr hc => by subst hk; rw [r6] at hc; cases hc
        · intro b hb
          obtain ⟨b', op, nm, st, q1, q2⟩ := hv5.bad he
          rw [q1] at hb
          have hbb : b' = b := by simpa using hb
          subst hbb
          have hlt := lt_of_heap q2
          exact ⟨.inr (by have := hnew5 _ q1; omega), by omega⟩
      · have he : (callAppend Df n blk).2.1 = 0 := by have := of_decide_eq_false he; omega
        rw [if_pos he] at hcons
        rw [hcons] at hleft
        have n85' : W5.heap[b8]? = some (.cells #[.slice s1.a s1.len s1.cap] 30 (0, 0)) := n85
        have row5 : BytesO W5 w.heap.size s1 R1 := (row3.ext e4).upd u5 fun k _ hk hh => s1F k hk hh
        refine ld_r n85' (x := s1) rfl (slc_r row5.in (by omega) (by omega) (by omega) (by omega) (by omega) fun x27 hx27 hl27 _ hb27 => ?_)
        have hbv27 : ((bv R1).drop (Int.toNat 1024 * 1)).take ((Int.toNat ((s1.len : Nat) : Int) - Int.toNat 1024) * 1) = bv (R1.drop 1024) := by
          rw [show Int.toNat 1024 * 1 = 1024 from rfl, ← List.map_drop, List.take_of_length_le]
          rw [List.length_map, List.length_drop, Int.toNat_natCast]; omega
        rw [hbv27] at hx27
        refine bclone_call hx27.x (by rw [List.length_drop]; omega) fun s5 W6 r6 e6 => ?_
        have n86 := e6.ext_get n85'
        refine stC_r n86 Nat.one_pos fun W7 u7 n7 _ => ?_
        have n7 : W7.heap[b8]? = some (.cells #[.slice s5.a s5.len s5.cap] 30 (0, 0)) := n7
        have z6 := e6.size
        have z7 := u7.size
        have b8l : b8 ≠ l := fun hh => by rw [hh, r5] at n85'; cases n85'
        have r7 := u7.get1 (e6.ext_get r5) b8l.symm
        obtain ⟨u8, r8⟩ := upd_putObj (o' := .loop (rc .ready none)) r7
        have z8 := u8.size
        have st8 : Stay W7 (W7.putObj l (.loop (rc .ready none))) := Stay.upd u8 fun k hk o ho => by subst hk; rw [r7] at ho; cases ho; rfl
        have U8 : Upd (fun k => G k ∨ k = l) W (W7.putObj l (.loop (rc .ready none))) := ((U5.trans (Upd.of_ext e6)).trans (u7.mono fun k _ hk => .inl (hk ▸ I.g8))).trans (u8.mono fun k _ hk => .inr hk)
        have s5ge : ∀ k, s5.blk k → W5.heap.size ≤ k ∧ k < W6.heap.size := fun k hk => ⟨r6.blk_ge hk, r6.in.blk_lt hk⟩
        have no8 : ¬ F5 b8 := fun hh => (hF5 _ hh).elim I1.no8 fun hh => by have := lt_of_heap (e4.ext_get n8); omega
        have no3 : ¬ F5 b3 := fun hh => (hF5 _ hh).elim I1.no3 fun hh => by have := lt_of_heap (e4.ext_get n3'); omega
        have nol : ¬ F5 l := fun hh => (hF5 _ hh).elim (fun hh => hGl (g5 _ hh)) fun hh => by omega
        have dk8 := ((disk5.ext e6).frame u7 fun k hk hh => no8 (hh ▸ hk)).frame u8 fun k hk hh => nol (hh ▸ hk)
        have f5G : ∀ k, F5 k → G k ∨ W.heap.size ≤ k := fun k hk => (hF5 k hk).elim (fun hh => .inl (g5 k hh)) fun hh => .inr (by omega)
        have l8 := lt_of_heap n7
        have l3 := lt_of_heap n35
        have keep : ∀ {k o}, W5.heap[k]? = some o → k ≠ b8 → k ≠ l → (W7.putObj l (.loop (rc .ready none))).heap[k]? = some o := fun h h1 h2 => u8.get1 (u7.get1 (e6.ext_get h) h1) h2
        refine ⟨⟨_, _, r7⟩, hT (fun k => (G k ∨ W.heap.size ≤ k) ∧ k < (W7.putObj l (.loop (rc .ready none))).heap.size) _ (((S5.trans (Stay.ext e6)).trans (fr_none n86 rfl u7)).trans st8) U8 (fun k hk => hk.1) (fun k hk => hk.2) ⟨fl + 1, F5, (callAppend Df n blk).1, s5, ?_⟩ r8⟩
        refine ⟨dk8.mono (by omega), fun k hk => ⟨f5G k hk, dk8.lt k hk⟩, ⟨.inl I.g8, by omega⟩, ⟨.inl I.g3, by omega⟩, fun k hk => ⟨.inr (by have := (s5ge k hk).1; omega), by have := (s5ge k hk).2; omega⟩, fun k hk => hk.1.elim (gW k) fun hh => .inr (by omega), keep n15 (by omega) (by omega), keep n25 (by omega) (by omega), keep n35 (by omega) (fun hh => by rw [hh, r5] at n35; cases n35), u8.get1 n7 b8l, keep nf5 (by omega) (by omega), ?_, no8, no3, fun k hk hh => ?_, ?_, ?_, hleft, UW _ U8, ?_, fun k hk => (hF5 k hk).elim (I.fw k) fun hh => .inr (by omega)⟩
        · have hq : (mk ++ B.take (1024 * (j + 1))).drop (1024 * (fl + 1)) = R1.drop 1024 := by rw [hR1, List.drop_drop]; congr 1
          rw [hq]
          refine SlOwn.mono ((r6.upd u7 fun k _ hk hh => ?_).upd u8 fun k _ hk hh => ?_) (by omega)
          · obtain ⟨c, fr, hc⟩ := r6.in.blk_cells hk; rw [hh, n86] at hc; cases hc
          · have := s5ge k hk; omega
        · have := disk5.lt k hh; have := (s5ge k hk).1; omega
        · rw [htl]; omega
        · rw [htl]; omega
        · exact fun hh => (hF5 _ hh).elim I1.no2 fun hh => by have := lt_of_heap (e4.ext_get n2'); omega
    · have hpart := of_decide_eq_false hpart
      obtain ⟨u8, r8⟩ := upd_putObj (o' := .loop (rc .ready none)) r3
      have z8 := u8.size
      have st8 : Stay W3 (W3.putObj l (.loop (rc .ready none))) := Stay.upd u8 fun k hk o ho => by subst hk; rw [r3] at ho; cases ho; rfl
      have U8 : Upd (fun k => G k ∨ k = l) W (W3.putObj l (.loop (rc .ready none))) := U3.trans (u8.mono fun k _ hk => .inr hk)
      have b8l : b8 ≠ l := fun hh => by rw [hh, r3] at n8; cases n8
      have l8 := lt_of_heap n8
      have l3 := lt_of_heap n3'
      have dk8 := disk3.frame u8 fun k hk hh => hGl (I.fg _ (hh ▸ hk))
      refine ⟨⟨_, _, r3⟩, hT (fun k => (G k ∨ W.heap.size ≤ k) ∧ k < (W3.putObj l (.loop (rc .ready none))).heap.size) _ (S3.trans st8) U8 (fun k hk => hk.1) (fun k hk => hk.2) ⟨fl, Fd, Df, s1, ?_⟩ r8⟩
      refine ⟨dk8, fun k hk => ⟨.inl (I.fg k hk), dk8.lt k hk⟩, ⟨.inl I.g8, by omega⟩, ⟨.inl I.g3, by omega⟩, fun k hk => ⟨?_, ?_⟩, fun k hk => hk.1.elim (gW k) fun hh => .inr (by omega), u8.get1 n1' (by omega), u8.get1 n2' (by omega), u8.get1 n3' (fun hh => by rw [hh, r3] at n3'; cases n3'), u8.get1 n8 b8l, u8.get1 nf' (by omega), ?_, I1.no8, I1.no3, s1F, ?_, ?_, I.left, UW _ U8, I.no2, I.fw⟩
      · rcases hb2 k hk with h' | h'
        · exact .inl (I1.gs k h')
        · exact .inr (by omega)
      · have := row3.in.blk_lt hk; omega
      · rw [← hR1]
        exact row3.upd u8 fun k _ hk hh => by obtain ⟨c, fr, hc⟩ := row3.in.blk_cells hk; rw [hh, r3] at hc; cases hc
      · rw [htl]; omega
      · rw [htl]; omega
  · rintro n0 G W W' hn ⟨fl, Fd, Df, s, I⟩ hGl hGD hD u
    rw [← hBd] at hn
    have htk : B.take (1024 * n0) = B := List.take_of_length_le hn
    have I1 := I.move u (fun k hk => by rw [hk]; exact hGl) (by omega) (by omega) (by omega) (fun k hk => by omega)
    have row := I1.row
    have lo := I1.lo
    have hi' := I1.hi
    rw [htk] at row lo hi'
    have hrl := row.len1
    rw [List.length_map, List.length_drop] at hrl
    have hTl : (mk ++ B).length ≤ 1048576 + 1024 := by rw [List.length_append]; omega
    obtain ⟨D0, hD0⟩ : ∃ D0, D0 = w9.heap.size := ⟨_, rfl⟩
    rw [← hD0] at hD hGD ⊢
    have zW := I1.upd.size
    have gD3 : D0 ≠ b3 := fun hh => by have := I1.n3; rw [← hh, hD] at this; cases this
    have fin : ∀ F' W2 v, W2.heap[b3]? = some (.cells #[v] 26 (0, 0)) → W2.heap[D0]? = some (.deferred (some [])) → ErrV W2 v (fillA n (mk ++ B) D).2 → DS W2 d F' (fillA n (mk ++ B) D).1 (N + 4000) → ¬ F' D0 → Upd (fun k => F k ∨ w.heap.size ≤ k) w W2 → (∀ k, F' k → F k ∨ w.heap.size ≤ k) → endM D0 (ld .any (at0 b3) K) W2 := by
      intro F' W2 v h3 hD2 hv hd hn hu hF
      obtain ⟨u3, _⟩ := upd_putObj (o' := .deferred none) hD2
      refine ⟨hD2, ld_r (u3.get1 h3 gD3.symm) (x := v) rfl (hK F' _ v (hv.upd u3 fun k hk c fr hc => ?_) (hd.frame u3 fun k hk hh => hn (hh ▸ hk)) ?_ hF)⟩
      · subst hk; rw [hD2] at hc; cases hc
      · exact (hu.trans (u3.mono (S' := fun k => F k ∨ w.heap.size ≤ k) fun k _ hk => .inr (by omega))).mono fun k hk h => h.resolve_right (by omega)
    have hFD : ∀ k, Fd k → k ≠ D0 := fun k hk hh => hGD (I.fg _ (hh ▸ hk))
    refine aft_none (ld_r I1.n8 (x := s) rfl (sif_r (fun h0 => ?_) fun h0 => ?_))
    · have h0 : ((s.len : Nat) : Int) = 0 := by simpa using h0
      have hnil : (mk ++ B).drop (1024 * fl) = [] := List.drop_eq_nil_of_le (by omega)
      have hleft := I1.left
      rw [hnil, fillA_nil] at hleft
      refine chk_r rfl (stC_r I1.n3 Nat.one_pos fun W2 u2 n2 _ => ?_)
      have n2 : W2.heap[b3]? = some (.cells #[.nilIface] 26 (0, 0)) := n2
      refine fin Fd W2 .nilIface n2 (u2.get1 hD gD3) (by rw [hleft]; exact ErrV.none W2) ?_ (fun hh => hFD _ hh rfl) (I1.upd.trans (u2.mono fun k _ hk => .inr (by omega))) I1.fw
      rw [hleft]
      exact (I1.disk.frame u2 fun k hk hh => I1.no3 (hh ▸ hk)).mono (by omega)
    · have h0 : ¬ ((s.len : Nat) : Int) = 0 := by simpa using h0
      have hne : (mk ++ B).drop (1024 * fl) ≠ [] := fun hh => by have := congrArg List.length hh; rw [List.length_drop, List.length_nil] at this; omega
      have hcons := fillA_cons (n := n) (D := Df) hne
      have hlt : ((mk ++ B).drop (1024 * fl)).length ≤ 1024 := by rw [List.length_drop]; omega
      rw [List.take_of_length_le hlt, List.drop_eq_nil_of_le hlt, fillA_nil] at hcons
      have hleft : fillA n (mk ++ B) D = ((callAppend Df n ((mk ++ B).drop (1024 * fl))).1, (callAppend Df n ((mk ++ B).drop (1024 * fl))).2.1) := by
        rw [I1.left, hcons]
        split
        · rename_i hh; rw [hh]
        · rfl
      refine drew_r fun W4 e4 _ => ld_r (e4.ext_get I1.n1) (x := some (at0 f)) rfl (nn_some (ld_r (e4.ext_get I1.nf) (off := 0) (x := some (at0 d)) c0 (ld_r (e4.ext_get I1.n2) (x := n) rfl (ld_r (e4.ext_get I1.n8) (x := s) rfl ?_))))
      refine appendS (I1.disk.ext e4) (by omega) (row.in.ext e4).x (.inr fun k hk => ⟨(row.in.ext e4).blk_lt hk, I1.nos k hk⟩) fun F5 W5 v5 hv5 disk5 u5 hF5 _ => ?_
      have z4 := e4.size
      have n35 := u5.get (e4.ext_get I1.n3) I1.no3
      refine chk_r hv5.one (stC_r n35 Nat.one_pos fun W6 u6 n6 _ => ?_)
      have n6 : W6.heap[b3]? = some (.cells #[v5] 26 (0, 0)) := n6
      have l3 := lt_of_heap (e4.ext_get I1.n3)
      have lD := lt_of_heap (e4.ext_get hD)
      refine fin F5 W6 v5 n6 (u6.get1 (u5.get (e4.ext_get hD) fun hh => hFD _ hh rfl) gD3) ?_ ?_ (fun hh => (hF5 _ hh).elim (fun hh => hFD _ hh rfl) fun hh => by omega) (((I1.upd.trans (Upd.of_ext e4)).trans (u5.mono fun k _ hk => I1.fw k hk)).trans (u6.mono fun k _ hk => .inr (by omega))) fun k hk => (hF5 k hk).elim (I1.fw k) fun hh => .inr (by omega)
      · rw [hleft]; exact hv5.upd u6 (NoTy.box n35 (by decide))
      · rw [hleft]
        exact (disk5.frame u6 fun k hk hh => (hF5 k hk).elim (fun h' => I1.no3 (hh ▸ h')) fun h' => by omega).mono (by omega)
  · rintro q G W W' ⟨rfl, Fd, v, I⟩ hGl hGD hD u
    have I1 := I.move u (fun k hk => by rw [hk]; exact hGl) (fun k hk => by omega)
    obtain ⟨D0, hD0⟩ : ∃ D0, D0 = w9.heap.size := ⟨_, rfl⟩
    rw [← hD0] at hD hGD ⊢
    obtain ⟨u3, _⟩ := upd_putObj (o' := .deferred none) hD
    have I2 := I1.move u3 (fun k hk => by rw [hk]; exact hGD) (fun k hk => by omega)
    exact aft_ret ⟨hD, ld_r I2.n3 (x := v) rfl (hK Fd _ v I2.er I2.disk (I2.upd.mono fun k hk h => h.resolve_right (by omega)) I2.fw)⟩
end
end Dq
end Go.Proofs.YtmooldhpiopcgaaGreatDoor
set_option linter.unusedSimpArgs false
set_option linter.unusedVariables false
set_option maxRecDepth 100000
namespace Go.Proofs.YtmooldhpiopcgaaGreatDoor
namespace Dq
open Go Go.Vx Dsk
section
variable {w w' : World}
abbrev stT (s : Stm) : Cells.T c57 := (s.1, s.2.1, s.2.2, ())
theorem run_partI {xs : Array Value} {j : Nat} {v : Value} (h : xs[j]? = some v) : (part 3 xs j).run Tryz.prog w = .ok v w := by
  simp [part, i3_ok.run_isAgg, h, show isAggD i3.desc = false from rfl]
theorem stm_equal (a b : Stm) (w : World) : (Op.equalIn 10000 57 (.agg (Cells.vals c57 (stT a)).toArray) (.agg (Cells.vals c57 (stT b)).toArray)).run Tryz.prog w = .ok (decide (a = b)) w := by
  obtain ⟨j, hj, _⟩ := i3_ok.infoX
  have hu : Tryz.prog.underlying 57 = some (.array 3 3) := i57_ok.und
  have hc : Tryz.prog.cellsOf 3 = 1 := by kernel_rfl
  rw [run_equalIn_array w 9999 _ _ hu hj, hc]
  obtain ⟨a1, a2, a3⟩ := a
  obtain ⟨b1, b2, b3⟩ := b
  have hI : ∀ x y : Int, (Op.equalIn 9999 3 (.int .i64 x) (.int .i64 y)).run Tryz.prog w = .ok (x == y) w := fun x y => run_equalIn_int w 9998 _ _ _ _ _ i3_ok.und
  have p0 : ∀ (x y z : Int), (part 3 (Cells.vals c57 (stT (x, y, z))).toArray 0).run Tryz.prog w = .ok (.int .i64 x) w := fun x y z => run_partI rfl
  have p1 : ∀ (x y z : Int), (part 3 (Cells.vals c57 (stT (x, y, z))).toArray 1).run Tryz.prog w = .ok (.int .i64 y) w := fun x y z => run_partI rfl
  have p2 : ∀ (x y z : Int), (part 3 (Cells.vals c57 (stT (x, y, z))).toArray 2).run Tryz.prog w = .ok (.int .i64 z) w := fun x y z => run_partI rfl
  show (Op.eqItems 9999 3 1 _ _ [0, 1, 2]).run Tryz.prog w = _
  by_cases h1 : a1 = b1 <;> by_cases h2 : a2 = b2 <;> by_cases h3 : a3 = b3 <;> simp [Op.eqItems, h1, h2, h3, hI, p0, p1, p2]
theorem stm_guard (op : BinOp) (o1 o2 : Operand) (a b : Stm) (w : World) : (eqGuard op 57 o1 o2 (.agg (Cells.vals c57 (stT a)).toArray) (.agg (Cells.vals c57 (stT b)).toArray)).run Tryz.prog w = .ok () w := run_eqGuard_agg w op 57 o1 o2 _ _ (by kernel_rfl)
theorem stm_eq {o1 o2 : Operand} {a b : Stm} {K : Bool → World → Prop} (hK : K (decide (a = b)) w) : rdB Tryz.prog (do eqGuard .eql 57 o1 o2 (.agg (Cells.vals c57 (stT a)).toArray) (.agg (Cells.vals c57 (stT b)).toArray); binOp .eql 57 (.agg (Cells.vals c57 (stT a)).toArray) (.agg (Cells.vals c57 (stT b)).toArray) : Sem Value) K w := by
  refine ⟨decide (a = b), ?_, hK⟩
  have h := run_eql_struct (P := Tryz.prog) w 57 (Cells.vals c57 (stT a)).toArray (Cells.vals c57 (stT b)).toArray
  rw [stm_equal] at h
  dsimp only
  rw [Sem.run_bind, stm_guard .eql o1 o2 a b w, Result.andThen_ok, h]; rfl
theorem stm_ne {o1 o2 : Operand} {a b : Stm} {K : Bool → World → Prop} (hK : K (decide (a ≠ b)) w) : rdB Tryz.prog (do eqGuard .neq 57 o1 o2 (.agg (Cells.vals c57 (stT a)).toArray) (.agg (Cells.vals c57 (stT b)).toArray); binOp .neq 57 (.agg (Cells.vals c57 (stT a)).toArray) (.agg (Cells.vals c57 (stT b)).toArray) : Sem Value) K w := by
  refine ⟨decide (a ≠ b), ?_, hK⟩
  have h := run_neq_struct (P := Tryz.prog) w 57 (Cells.vals c57 (stT a)).toArray (Cells.vals c57 (stT b)).toArray
  rw [stm_equal] at h
  dsimp only
  rw [Sem.run_bind, stm_guard .neq o1 o2 a b w, Result.andThen_ok, h]
  show Result.ok (Value.bool !decide (a = b)) w = Result.ok (Value.bool (decide (a ≠ b))) w
  rw [decide_not]
end
end Dq
end Go.Proofs.YtmooldhpiopcgaaGreatDoor
set_option linter.unusedSimpArgs false
set_option linter.unusedVariables false
set_option maxRecDepth 100000
namespace Go.Proofs.YtmooldhpiopcgaaGreatDoor
namespace Dq
open Go Go.Vx Dsk Cdc Trx
section
variable {w w' : World} {S F F' : Nat → Prop} {d : Nat} {D : Dk} {N : Nat} {p : Nat} {e : Enc} {lim na : Nat} {O : Nat → Prop} {M : Parts}
theorem side_eq (n : Nm) : n ++ ({ data := #[126] } : ByteArray) = side n := by
  unfold side
  cases h : n ++ ({ data := #[126] } : ByteArray)
  have : (n ++ ({ data := #[126] } : ByteArray)).data = n.data ++ #[126] := ByteArray.data_append
  rw [h] at this
  simp only at this
  rw [this]; simp
theorem replace1_tie (v0 v1 v2 : Addr) (K : World → Prop) : vcgD tab Tryz.prog Tryz.f136 h136 [.pointer (some v0), .pointer (some v1), .pointer (some v2)] K = F136 v0 v1 v2 (fun _ => K) := by kernel_rfl
theorem replace1_last {v0 v1 v2 : Addr} {K : World → Prop} (h : F136 v0 v1 v2 (fun _ => K) w) : lastX Tryz.prog { target := .fn (.func 136) #[.pointer (some v0), .pointer (some v1), .pointer (some v2)], args := #[] ++ #[] } K w := by
  refine ⟨.func 136, #[.pointer (some v0), .pointer (some v1), .pointer (some v2)], 136, #[.pointer (some v0), .pointer (some v1), .pointer (some v2)], rfl, ?_, ?_⟩
  · exact run_callFunc (P := Tryz.prog) (f := 136) (by kernel_rfl) w
  · exact vcgD_sound tabOk Tryz.func136 h136 [.pointer (some v0), .pointer (some v1), .pointer (some v2)] K w (Eq.mpr (congrFun (replace1_tie v0 v1 v2 K) w) h)
structure Bd (b1 b2 b3 f d : Nat) (sm : Sl) (bs : Nm) (bt : Nat) (ct : Array Value) (tt : TypeId) (mk : List UInt8) (p : Nat) (e : Enc) (lim na : Nat) (O : Nat → Prop) (M : Parts) (F : Nat → Prop) (w : World) : Prop where
  n1 : w.heap[b1]? = some (.cells #[.pointer (some (at0 f))] 29 (0, 0))
  n2 : ∃ v, w.heap[b2]? = some (.cells #[v] 26 (0, 0))
  n3 : w.heap[b3]? = some (.cells #[.string bs] 9 (0, 0))
  nf : ∃ cs, w.heap[f]? = some (.cells cs 110 (0, 0)) ∧ cs[0]? = some (.pointer (some (at0 d))) ∧ cs[2]? = some (.slice sm.a sm.len sm.cap)
  nt : w.heap[bt]? = some (.cells ct tt (0, 0))
  x3 : ¬ F b3
  xf : ¬ F f
  xt : ¬ F bt
  x1 : ¬ F b1
  x2 : ¬ F b2
  tt2 : bt ≠ b2
  nz : b2 ≠ 0
  txt : Txt w p e lim na O M
  xO : ∀ k, O k → ¬ F k ∧ k ≠ b2
  mk_ : By w sm mk
  xm : ∀ k, sm.blk k → ¬ F k
  laid : LaidE w
variable {b1 b2 b3 f : Nat} {sm : Sl} {bs : Nm} {bt : Nat} {ct : Array Value} {tt : TypeId} {mk : List UInt8}
theorem Bd.step (h : Bd b1 b2 b3 f d sm bs bt ct tt mk p e lim na O M F w) (A : DS w d F D N) (u : Upd F w w') (hF : ∀ k, F' k → F k ∨ w.heap.size ≤ k) : Bd b1 b2 b3 f d sm bs bt ct tt mk p e lim na O M F' w' := by
  obtain ⟨v, hv⟩ := h.n2
  obtain ⟨cs, c1, c2, c3⟩ := h.nf
  have nn : ∀ {k o}, w.heap[k]? = some o → ¬ F k → ¬ F' k := fun {k o} hk hn hh => (hF _ hh).elim hn fun hl => by have := lt_of_heap hk; omega
  exact ⟨u.get h.n1 h.x1, ⟨v, u.get hv h.x2⟩, u.get h.n3 h.x3, ⟨cs, u.get c1 h.xf, c2, c3⟩, u.get h.nt h.xt, nn h.n3 h.x3, nn c1 h.xf, nn h.nt h.xt, nn h.n1 h.x1, nn hv h.x2, h.tt2, h.nz, h.txt.upd u (fun k hk => (h.xO k hk).1) (A.no fun _ => rfl),
    fun k hk => ⟨fun hh => (hF _ hh).elim (h.xO k hk).1 fun hl => by have := h.txt.own k hk; omega, (h.xO k hk).2⟩, h.mk_.upd u h.xm, fun k hk hh => (hF _ hh).elim (h.xm k hk) fun hl => by have := h.mk_.blk_lt hk; omega, h.laid.upd u A.no0⟩
theorem Bd.ext (h : Bd b1 b2 b3 f d sm bs bt ct tt mk p e lim na O M F w) (A : DS w d F D N) (u : Ext w w') : Bd b1 b2 b3 f d sm bs bt ct tt mk p e lim na O M F w' := h.step A (Upd.of_ext u) fun k hk => .inl hk
theorem Bd.err (h : Bd b1 b2 b3 f d sm bs bt ct tt mk p e lim na O M F w) (u : Upd (fun k => k = b2) w w') {v : Value} (hv : w'.heap[b2]? = some (.cells #[v] 26 (0, 0))) : Bd b1 b2 b3 f d sm bs bt ct tt mk p e lim na O M F w' := by
  obtain ⟨v0, h0⟩ := h.n2
  obtain ⟨cs, c1, c2, c3⟩ := h.nf
  exact ⟨u.get1 h.n1 (fun hh => by have := h.n1; rw [hh, h0] at this; cases this), ⟨v, hv⟩, u.get1 h.n3 (fun hh => by have := h.n3; rw [hh, h0] at this; cases this), ⟨cs, u.get1 c1 (fun hh => by rw [hh, h0] at c1; cases c1), c2, c3⟩, u.get1 h.nt h.tt2, h.x3, h.xf, h.xt, h.x1, h.x2, h.tt2, h.nz,
    h.txt.upd u (fun k hk hh => (h.xO k hk).2 hh) (NoTy.box h0 (by decide)), h.xO, h.mk_.upd u (fun k hk hh => by obtain ⟨c, fr, hc⟩ := h.mk_.blk_cells hk; rw [hh, h0] at hc; cases hc), h.xm, h.laid.upd u fun hh => h.nz hh.symm⟩
theorem Bd.put2 (h : Bd b1 b2 b3 f d sm bs bt ct tt mk p e lim na O M F w) (A : DS w d F D N) {v : Value} {er : Int} {D' : Dk} {N' : Nat} (hv : ErrV w' v er) (A' : DS w' d F' D' N') (u : Upd F w w') (hF : ∀ k, F' k → F k ∨ w.heap.size ≤ k) {K : World → Prop}
    (hK : ∀ w'', Bd b1 b2 b3 f d sm bs bt ct tt mk p e lim na O M F' w'' → DS w'' d F' D' N' → w''.heap[b2]? = some (.cells #[v] 26 (0, 0)) → ErrV w'' v er → Upd (fun k => F k ∨ k = b2) w w'' → Upd (fun k => k = b2) w' w'' → K w'') : chk (isOne v = true) (stC (at0 b2) v K) w' := by
  have h' := h.step A u hF
  obtain ⟨v0, h0⟩ := h'.n2
  refine chk_r hv.one (stC_r h0 Nat.one_pos fun w2 u2 n2 _ => ?_)
  have n2 : w2.heap[b2]? = some (.cells #[v] 26 (0, 0)) := n2
  exact hK w2 (h'.err u2 n2) (A'.frame u2 fun k hk hh => h'.x2 (hh ▸ hk)) n2 (hv.upd u2 (NoTy.box h0 (by decide))) ((u.mono fun k _ hk => .inl hk).trans (u2.mono fun k _ hk => .inr hk)) u2
theorem Bd.put (h : Bd b1 b2 b3 f d sm bs bt ct tt mk p e lim na O M F w) (A : DS w d F D N) {v : Value} {er : Int} {D' : Dk} {N' : Nat} (hv : ErrV w' v er) (A' : DS w' d F' D' N') (u : Upd F w w') (hF : ∀ k, F' k → F k ∨ w.heap.size ≤ k) {K : World → Prop}
    (hK : ∀ w'', Bd b1 b2 b3 f d sm bs bt ct tt mk p e lim na O M F' w'' → DS w'' d F' D' N' → w''.heap[b2]? = some (.cells #[v] 26 (0, 0)) → ErrV w'' v er → Upd (fun k => F k ∨ k = b2) w w'' → K w'') : chk (isOne v = true) (stC (at0 b2) v K) w' :=
  h.put2 A hv A' u hF fun w'' a b c d e _ => hK w'' a b c d e
theorem rep_end (h : Bd b1 b2 b3 f d sm bs bt ct tt mk p e lim na O M F w) (A : DS w d F D N) (hN : N + 2 ≤ 2 ^ 30) {v : Value} {er : Int} {t : Stm} (hv : ErrV w v er) (n2 : w.heap[b2]? = some (.cells #[v] 26 (0, 0))) {K : Value → World → Prop}
    (hK : ∀ F' w', ErrV w' v er → DS w' d F' (clean D bs er t).1 (N + 2) → Upd F w w' → (∀ k, F' k → F k ∨ w.heap.size ≤ k) → K v w') :
    lastX Tryz.prog { target := .fn (.func 136) #[.pointer (some (at0 b2)), .pointer (some (at0 b1)), .pointer (some (at0 b3))], args := #[] ++ #[] } (ld .any (at0 b2) K) w := by
  refine replace1_last ?_
  unfold F136
  unfold clean at hK
  refine ld_r n2 (x := v) rfl (hv.nenil (sif_r (fun he => ?_) fun he => ?_))
  · have he := of_decide_eq_true he
    rw [if_neg he] at hK
    obtain ⟨cs, c1, c2, _⟩ := h.nf
    refine drew_r fun w1 e1 _ => ld_r (e1.ext_get h.n1) (x := some (at0 f)) rfl (nn_some (ld_r (e1.ext_get c1) (off := 0) (x := some (at0 d)) c2 (ld_r (e1.ext_get h.n3) (x := bs) rfl ?_)))
    refine removeS (A.ext e1) hN fun F' w2 v' _ A2 u2 hF2 => ?_
    have hz := e1.size
    exact ld_r (u2.get (e1.ext_get n2) h.x2) (x := v) rfl (hK F' w2 ((hv.ext e1).upd u2 ((A.ext e1).no fun _ => rfl)) A2 ((Upd.of_ext e1).trans u2) fun k hk => (hF2 k hk).imp id fun hh => by omega)
  · have he : er = 0 := by have := of_decide_eq_false he; omega
    rw [if_pos he] at hK
    exact ld_r n2 (x := v) rfl (hK F w hv (A.mono (by omega)) (Upd.refl _ _) fun k hk => .inl hk)
end
end Dq
end Go.Proofs.YtmooldhpiopcgaaGreatDoor
